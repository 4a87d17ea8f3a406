/-
  token.number, walked: it answers Tk.number. Condition: the row is no longer than 2^32 bytes.
-/
import Derived.Test.YthbpkmmnoeikoaaJm04
namespace Go.Proofs.Ythbpkmmnoeikoaa
open Go Go.RowKit
set_option linter.unusedVariables false
set_option linter.unusedSimpArgs false

theorem number_err1 {l : List UInt8} (h : Tk.digs (Tk.body l) = 0 ∨ (1 < Tk.digs (Tk.body l) ∧ (Tk.body l).head? = some 48)) : Tk.number l = (0, 2) := by unfold Tk.number; rw [if_pos h]
theorem number_none {l : List UInt8} (h : ¬ (Tk.digs (Tk.body l) = 0 ∨ (1 < Tk.digs (Tk.body l) ∧ (Tk.body l).head? = some 48))) (hf : Tk.frac ((Tk.body l).drop (Tk.digs (Tk.body l))) = none) : Tk.number l = (0, 2) := by
  unfold Tk.number; rw [if_neg h, hf]
theorem number_none2 {l r : List UInt8} (h : ¬ (Tk.digs (Tk.body l) = 0 ∨ (1 < Tk.digs (Tk.body l) ∧ (Tk.body l).head? = some 48))) (hf : Tk.frac ((Tk.body l).drop (Tk.digs (Tk.body l))) = some r) (he : Tk.expo r = none) : Tk.number l = (0, 2) := by
  unfold Tk.number; rw [if_neg h, hf]; dsimp only; rw [he]
theorem number_some {l r q : List UInt8} (h : ¬ (Tk.digs (Tk.body l) = 0 ∨ (1 < Tk.digs (Tk.body l) ∧ (Tk.body l).head? = some 48))) (hf : Tk.frac ((Tk.body l).drop (Tk.digs (Tk.body l))) = some r) (he : Tk.expo r = some q) :
    Tk.number l = if q ≠ [] then (0, 2) else if (Tk.body l).drop (Tk.digs (Tk.body l)) ≠ [] then (0, 5) else if l = [45, 48] then (0, 0) else Nm.parse l := by
  unfold Tk.number; rw [if_neg h, hf]; dsimp only; rw [he]
theorem frac_dot0 {l : List UInt8} (h : l.head? = some 46) (h0 : Tk.digs l.tail = 0) : Tk.frac l = none := by unfold Tk.frac; rw [if_pos h, if_pos h0]
theorem frac_dot {l : List UInt8} (h : l.head? = some 46) (h0 : Tk.digs l.tail ≠ 0) : Tk.frac l = some (l.tail.drop (Tk.digs l.tail)) := by unfold Tk.frac; rw [if_pos h, if_neg h0]
theorem frac_no {l : List UInt8} (h : l.head? ≠ some 46) : Tk.frac l = some l := by unfold Tk.frac; rw [if_neg h]
theorem expo_0 {l : List UInt8} (h : l.head? = some 101 ∨ l.head? = some 69) (h0 : Tk.digs (Tk.sign l.tail) = 0) : Tk.expo l = none := by unfold Tk.expo; rw [if_pos h, if_pos h0]
theorem expo_e {l : List UInt8} (h : l.head? = some 101 ∨ l.head? = some 69) (h0 : Tk.digs (Tk.sign l.tail) ≠ 0) : Tk.expo l = some ((Tk.sign l.tail).drop (Tk.digs (Tk.sign l.tail))) := by unfold Tk.expo; rw [if_pos h, if_neg h0]
theorem expo_no {l : List UInt8} (h : ¬ (l.head? = some 101 ∨ l.head? = some 69)) : Tk.expo l = some l := by unfold Tk.expo; rw [if_neg h]

/-- what the walk asks of a list's text -/
theorem bs_is {l : List UInt8} (h : l = []) : (bs l).toList.isEmpty = true := by subst h; exact bs_nil
theorem bs_isnt {l : List UInt8} (h : l ≠ []) : (bs l).toList.isEmpty = false := by
  cases l with
  | nil => exact absurd rfl h
  | cons c l => exact bs_cons c l
theorem bs_hd {l : List UInt8} (c : UInt8) (h : l.head? = some c) (hx : 0 < (bs l).size) : (bs l)[0] = c := by
  cases l with
  | nil => cases h
  | cons a l => cases h; rfl

set_option maxRecDepth 100000 in
set_option maxHeartbeats 2000000 in
theorem nl_a (s : ByteArray) (w : World) {B W R : List UInt8} {n lb : Nat}
    (HT : Hid (∀ W', Calls Try.prog 93 #[.string s, .string ⟨#[45]⟩] W' fun e w' => e = .returned (str B) ∧ w' = W'))
    (HRB : Hid (∀ W', Calls Try.prog 64 #[str B, .func (.func 68) #[] #[]] W' fun e w' => e = .returned (str W) ∧ w' = W'))
    (zB : (bs B).size = lb)
    (zW : (bs W).size = n)
    (hn : n ≤ lb)
    (hxR : (bs B).extract n lb = bs R)
    (heW : (bs W).toList.isEmpty = true)
    : Calls Try.prog 70 #[.string s] w fun e w' => e = .returned (.tuple #[.int .i64 0, .int .i64 2]) ∧ w' = w := by
  go_enter Try.func70, Try.ntmps70
  go_wp2_with (first | (go_at_call 93; with_reducible refine (HT.out _).mono ?_; rintro e w1 ⟨rfl, rfl⟩) | (go_at_call 94; with_reducible refine (HC.out _).mono ?_; rintro e w1 ⟨rfl, rfl⟩) | (go_at_call 64; with_reducible refine (HRB.out _).mono ?_; rintro e w1 ⟨rfl, rfl⟩) | (go_at_call 64; with_reducible refine (HRM.out _).mono ?_; rintro e w1 ⟨rfl, rfl⟩) | (go_at_call 64; with_reducible refine (HRS.out _).mono ?_; rintro e w1 ⟨rfl, rfl⟩) | (go_at_call 20; with_reducible refine (HNP.out _).mono ?_; rintro e w1 ⟨rfl, rfl⟩))
  all_goals (first | (go_ret2; exact ⟨rfl, rfl⟩) | (rename_i hz _; exact absurd hz (by unfold undef; simp)) | (rename_i hz; exact absurd hz (by unfold undef; simp)))
set_option maxRecDepth 100000 in
set_option maxHeartbeats 2000000 in
theorem nl_b (s : ByteArray) (w : World) {B W R : List UInt8} {n lb : Nat}
    (HT : Hid (∀ W', Calls Try.prog 93 #[.string s, .string ⟨#[45]⟩] W' fun e w' => e = .returned (str B) ∧ w' = W'))
    (HRB : Hid (∀ W', Calls Try.prog 64 #[str B, .func (.func 68) #[] #[]] W' fun e w' => e = .returned (str W) ∧ w' = W'))
    (zB : (bs B).size = lb)
    (zW : (bs W).size = n)
    (hn : n ≤ lb)
    (hxR : (bs B).extract n lb = bs R)
    (heW : (bs W).toList.isEmpty = false)
    (hn1 : 1 < n)
    (h48 : ∃ h : 0 < (bs W).size, (((bs W)[0].toNat : Int) == 48) = true)
    : Calls Try.prog 70 #[.string s] w fun e w' => e = .returned (.tuple #[.int .i64 0, .int .i64 2]) ∧ w' = w := by
  obtain ⟨h48x, h48y⟩ := h48
  go_enter Try.func70, Try.ntmps70
  go_wp2_with (first | (go_at_call 93; with_reducible refine (HT.out _).mono ?_; rintro e w1 ⟨rfl, rfl⟩) | (go_at_call 94; with_reducible refine (HC.out _).mono ?_; rintro e w1 ⟨rfl, rfl⟩) | (go_at_call 64; with_reducible refine (HRB.out _).mono ?_; rintro e w1 ⟨rfl, rfl⟩) | (go_at_call 64; with_reducible refine (HRM.out _).mono ?_; rintro e w1 ⟨rfl, rfl⟩) | (go_at_call 64; with_reducible refine (HRS.out _).mono ?_; rintro e w1 ⟨rfl, rfl⟩) | (go_at_call 20; with_reducible refine (HNP.out _).mono ?_; rintro e w1 ⟨rfl, rfl⟩))
  all_goals (first | (go_ret2; exact ⟨rfl, rfl⟩) | (rename_i hz _; exact absurd hz (by unfold undef; simp)) | (rename_i hz; exact absurd hz (by unfold undef; simp)))
set_option maxRecDepth 100000 in
set_option maxHeartbeats 2000000 in
theorem nl_c (s : ByteArray) (w : World) {B W R M D : List UInt8} {n lb : Nat}
    (HT : Hid (∀ W', Calls Try.prog 93 #[.string s, .string ⟨#[45]⟩] W' fun e w' => e = .returned (str B) ∧ w' = W'))
    (HRB : Hid (∀ W', Calls Try.prog 64 #[str B, .func (.func 68) #[] #[]] W' fun e w' => e = .returned (str W) ∧ w' = W'))
    (zB : (bs B).size = lb)
    (zW : (bs W).size = n)
    (hn : n ≤ lb)
    (hxR : (bs B).extract n lb = bs R)
    (heW : (bs W).toList.isEmpty = false)
    (hvar : n = 1 ∨ (1 < n ∧ ∃ h : 0 < (bs W).size, (((bs W)[0].toNat : Int) == 48) = false))
    (heR : (bs R).toList.isEmpty = false)
    (HC : Hid (∀ W', Calls Try.prog 94 #[str R, .string ⟨#[46]⟩] W' fun e w' => e = .returned (.tuple #[str M, .bool true]) ∧ w' = W'))
    (HRM : Hid (∀ W', Calls Try.prog 64 #[str M, .func (.func 68) #[] #[]] W' fun e w' => e = .returned (str D) ∧ w' = W'))
    (heD : (bs D).toList.isEmpty = true)
    : Calls Try.prog 70 #[.string s] w fun e w' => e = .returned (.tuple #[.int .i64 0, .int .i64 2]) ∧ w' = w := by
  rcases hvar with hn1 | ⟨hn1, h48x, h48y⟩
  · subst hn1
    go_enter Try.func70, Try.ntmps70
    go_wp2_with (first | (go_at_call 93; with_reducible refine (HT.out _).mono ?_; rintro e w1 ⟨rfl, rfl⟩) | (go_at_call 94; with_reducible refine (HC.out _).mono ?_; rintro e w1 ⟨rfl, rfl⟩) | (go_at_call 64; with_reducible refine (HRB.out _).mono ?_; rintro e w1 ⟨rfl, rfl⟩) | (go_at_call 64; with_reducible refine (HRM.out _).mono ?_; rintro e w1 ⟨rfl, rfl⟩) | (go_at_call 64; with_reducible refine (HRS.out _).mono ?_; rintro e w1 ⟨rfl, rfl⟩) | (go_at_call 20; with_reducible refine (HNP.out _).mono ?_; rintro e w1 ⟨rfl, rfl⟩))
    all_goals (first | (go_ret2; exact ⟨rfl, rfl⟩) | (rename_i hz _; exact absurd hz (by unfold undef; simp)) | (rename_i hz; exact absurd hz (by unfold undef; simp)))
  · skip
    go_enter Try.func70, Try.ntmps70
    go_wp2_with (first | (go_at_call 93; with_reducible refine (HT.out _).mono ?_; rintro e w1 ⟨rfl, rfl⟩) | (go_at_call 94; with_reducible refine (HC.out _).mono ?_; rintro e w1 ⟨rfl, rfl⟩) | (go_at_call 64; with_reducible refine (HRB.out _).mono ?_; rintro e w1 ⟨rfl, rfl⟩) | (go_at_call 64; with_reducible refine (HRM.out _).mono ?_; rintro e w1 ⟨rfl, rfl⟩) | (go_at_call 64; with_reducible refine (HRS.out _).mono ?_; rintro e w1 ⟨rfl, rfl⟩) | (go_at_call 20; with_reducible refine (HNP.out _).mono ?_; rintro e w1 ⟨rfl, rfl⟩))
    all_goals (first | (go_ret2; exact ⟨rfl, rfl⟩) | (rename_i hz _; exact absurd hz (by unfold undef; simp)) | (rename_i hz; exact absurd hz (by unfold undef; simp)))
set_option maxRecDepth 100000 in
set_option maxHeartbeats 2000000 in
theorem nl_dE (s : ByteArray) (w : World) {B W R M D r : List UInt8} {n lb lm d : Nat}
    (HT : Hid (∀ W', Calls Try.prog 93 #[.string s, .string ⟨#[45]⟩] W' fun e w' => e = .returned (str B) ∧ w' = W'))
    (HRB : Hid (∀ W', Calls Try.prog 64 #[str B, .func (.func 68) #[] #[]] W' fun e w' => e = .returned (str W) ∧ w' = W'))
    (zB : (bs B).size = lb)
    (zW : (bs W).size = n)
    (hn : n ≤ lb)
    (hxR : (bs B).extract n lb = bs R)
    (heW : (bs W).toList.isEmpty = false)
    (hvar : n = 1 ∨ (1 < n ∧ ∃ h : 0 < (bs W).size, (((bs W)[0].toNat : Int) == 48) = false))
    (heR : (bs R).toList.isEmpty = false)
    (HC : Hid (∀ W', Calls Try.prog 94 #[str R, .string ⟨#[46]⟩] W' fun e w' => e = .returned (.tuple #[str M, .bool true]) ∧ w' = W'))
    (HRM : Hid (∀ W', Calls Try.prog 64 #[str M, .func (.func 68) #[] #[]] W' fun e w' => e = .returned (str D) ∧ w' = W'))
    (heD : (bs D).toList.isEmpty = false)
    (zD : (bs D).size = d)
    (zM : (bs M).size = lm)
    (hd : d ≤ lm)
    (hxr : (bs M).extract d lm = bs r)
    (her : (bs r).toList.isEmpty = true)
    : Calls Try.prog 70 #[.string s] w fun e w' => e = .returned (.tuple #[.int .i64 0, .int .i64 5]) ∧ w' = w := by
  rcases hvar with hn1 | ⟨hn1, h48x, h48y⟩
  · subst hn1
    go_enter Try.func70, Try.ntmps70
    go_wp2_with (first | (go_at_call 93; with_reducible refine (HT.out _).mono ?_; rintro e w1 ⟨rfl, rfl⟩) | (go_at_call 94; with_reducible refine (HC.out _).mono ?_; rintro e w1 ⟨rfl, rfl⟩) | (go_at_call 64; with_reducible refine (HRB.out _).mono ?_; rintro e w1 ⟨rfl, rfl⟩) | (go_at_call 64; with_reducible refine (HRM.out _).mono ?_; rintro e w1 ⟨rfl, rfl⟩) | (go_at_call 64; with_reducible refine (HRS.out _).mono ?_; rintro e w1 ⟨rfl, rfl⟩) | (go_at_call 20; with_reducible refine (HNP.out _).mono ?_; rintro e w1 ⟨rfl, rfl⟩))
    all_goals (first | (go_ret2; exact ⟨rfl, rfl⟩) | (rename_i hz _; exact absurd hz (by unfold undef; simp)) | (rename_i hz; exact absurd hz (by unfold undef; simp)))
  · skip
    go_enter Try.func70, Try.ntmps70
    go_wp2_with (first | (go_at_call 93; with_reducible refine (HT.out _).mono ?_; rintro e w1 ⟨rfl, rfl⟩) | (go_at_call 94; with_reducible refine (HC.out _).mono ?_; rintro e w1 ⟨rfl, rfl⟩) | (go_at_call 64; with_reducible refine (HRB.out _).mono ?_; rintro e w1 ⟨rfl, rfl⟩) | (go_at_call 64; with_reducible refine (HRM.out _).mono ?_; rintro e w1 ⟨rfl, rfl⟩) | (go_at_call 64; with_reducible refine (HRS.out _).mono ?_; rintro e w1 ⟨rfl, rfl⟩) | (go_at_call 20; with_reducible refine (HNP.out _).mono ?_; rintro e w1 ⟨rfl, rfl⟩))
    all_goals (first | (go_ret2; exact ⟨rfl, rfl⟩) | (rename_i hz _; exact absurd hz (by unfold undef; simp)) | (rename_i hz; exact absurd hz (by unfold undef; simp)))
set_option maxRecDepth 100000 in
set_option maxHeartbeats 2000000 in
theorem nl_dN (s : ByteArray) (w : World) {B W R M D r : List UInt8} {n lb lm d : Nat}
    (HT : Hid (∀ W', Calls Try.prog 93 #[.string s, .string ⟨#[45]⟩] W' fun e w' => e = .returned (str B) ∧ w' = W'))
    (HRB : Hid (∀ W', Calls Try.prog 64 #[str B, .func (.func 68) #[] #[]] W' fun e w' => e = .returned (str W) ∧ w' = W'))
    (zB : (bs B).size = lb)
    (zW : (bs W).size = n)
    (hn : n ≤ lb)
    (hxR : (bs B).extract n lb = bs R)
    (heW : (bs W).toList.isEmpty = false)
    (hvar : n = 1 ∨ (1 < n ∧ ∃ h : 0 < (bs W).size, (((bs W)[0].toNat : Int) == 48) = false))
    (heR : (bs R).toList.isEmpty = false)
    (HC : Hid (∀ W', Calls Try.prog 94 #[str R, .string ⟨#[46]⟩] W' fun e w' => e = .returned (.tuple #[str M, .bool true]) ∧ w' = W'))
    (HRM : Hid (∀ W', Calls Try.prog 64 #[str M, .func (.func 68) #[] #[]] W' fun e w' => e = .returned (str D) ∧ w' = W'))
    (heD : (bs D).toList.isEmpty = false)
    (zD : (bs D).size = d)
    (zM : (bs M).size = lm)
    (hd : d ≤ lm)
    (hxr : (bs M).extract d lm = bs r)
    (her : (bs r).toList.isEmpty = false)
    (h101 : ∃ h : 0 < (bs r).size, (bits .or .u8 ((bs r)[0].toNat : Int) 32 == 101) = false)
    : Calls Try.prog 70 #[.string s] w fun e w' => e = .returned (.tuple #[.int .i64 0, .int .i64 2]) ∧ w' = w := by
  obtain ⟨h101x, h101y⟩ := h101
  rcases hvar with hn1 | ⟨hn1, h48x, h48y⟩
  · subst hn1
    go_enter Try.func70, Try.ntmps70
    go_wp2_with (first | (go_at_call 93; with_reducible refine (HT.out _).mono ?_; rintro e w1 ⟨rfl, rfl⟩) | (go_at_call 94; with_reducible refine (HC.out _).mono ?_; rintro e w1 ⟨rfl, rfl⟩) | (go_at_call 64; with_reducible refine (HRB.out _).mono ?_; rintro e w1 ⟨rfl, rfl⟩) | (go_at_call 64; with_reducible refine (HRM.out _).mono ?_; rintro e w1 ⟨rfl, rfl⟩) | (go_at_call 64; with_reducible refine (HRS.out _).mono ?_; rintro e w1 ⟨rfl, rfl⟩) | (go_at_call 20; with_reducible refine (HNP.out _).mono ?_; rintro e w1 ⟨rfl, rfl⟩))
    all_goals (first | (go_ret2; exact ⟨rfl, rfl⟩) | (rename_i hz _; exact absurd hz (by unfold undef; simp)) | (rename_i hz; exact absurd hz (by unfold undef; simp)))
  · skip
    go_enter Try.func70, Try.ntmps70
    go_wp2_with (first | (go_at_call 93; with_reducible refine (HT.out _).mono ?_; rintro e w1 ⟨rfl, rfl⟩) | (go_at_call 94; with_reducible refine (HC.out _).mono ?_; rintro e w1 ⟨rfl, rfl⟩) | (go_at_call 64; with_reducible refine (HRB.out _).mono ?_; rintro e w1 ⟨rfl, rfl⟩) | (go_at_call 64; with_reducible refine (HRM.out _).mono ?_; rintro e w1 ⟨rfl, rfl⟩) | (go_at_call 64; with_reducible refine (HRS.out _).mono ?_; rintro e w1 ⟨rfl, rfl⟩) | (go_at_call 20; with_reducible refine (HNP.out _).mono ?_; rintro e w1 ⟨rfl, rfl⟩))
    all_goals (first | (go_ret2; exact ⟨rfl, rfl⟩) | (rename_i hz _; exact absurd hz (by unfold undef; simp)) | (rename_i hz; exact absurd hz (by unfold undef; simp)))
set_option maxRecDepth 100000 in
set_option maxHeartbeats 2000000 in
theorem nl_d0K (s : ByteArray) (w : World) {B W R M D r T K : List UInt8} {n lb lm d lr lt : Nat}
    (HT : Hid (∀ W', Calls Try.prog 93 #[.string s, .string ⟨#[45]⟩] W' fun e w' => e = .returned (str B) ∧ w' = W'))
    (HRB : Hid (∀ W', Calls Try.prog 64 #[str B, .func (.func 68) #[] #[]] W' fun e w' => e = .returned (str W) ∧ w' = W'))
    (zB : (bs B).size = lb)
    (zW : (bs W).size = n)
    (hn : n ≤ lb)
    (hxR : (bs B).extract n lb = bs R)
    (heW : (bs W).toList.isEmpty = false)
    (hvar : n = 1 ∨ (1 < n ∧ ∃ h : 0 < (bs W).size, (((bs W)[0].toNat : Int) == 48) = false))
    (heR : (bs R).toList.isEmpty = false)
    (HC : Hid (∀ W', Calls Try.prog 94 #[str R, .string ⟨#[46]⟩] W' fun e w' => e = .returned (.tuple #[str M, .bool true]) ∧ w' = W'))
    (HRM : Hid (∀ W', Calls Try.prog 64 #[str M, .func (.func 68) #[] #[]] W' fun e w' => e = .returned (str D) ∧ w' = W'))
    (heD : (bs D).toList.isEmpty = false)
    (zD : (bs D).size = d)
    (zM : (bs M).size = lm)
    (hd : d ≤ lm)
    (hxr : (bs M).extract d lm = bs r)
    (her : (bs r).toList.isEmpty = false)
    (h101 : ∃ h : 0 < (bs r).size, (bits .or .u8 ((bs r)[0].toNat : Int) 32 == 101) = true)
    (zr : (bs r).size = lr)
    (hr1 : 1 ≤ lr)
    (hxT : (bs r).extract 1 lr = bs T)
    (heT : (bs T).toList.isEmpty = true)
    (HRS : Hid (∀ W', Calls Try.prog 64 #[str T, .func (.func 68) #[] #[]] W' fun e w' => e = .returned (str K) ∧ w' = W'))
    (zT : (bs T).size = lt)
    (heK : (bs K).toList.isEmpty = true)
    : Calls Try.prog 70 #[.string s] w fun e w' => e = .returned (.tuple #[.int .i64 0, .int .i64 2]) ∧ w' = w := by
  obtain ⟨h101x, h101y⟩ := h101
  rcases hvar with hn1 | ⟨hn1, h48x, h48y⟩
  · subst hn1
    go_enter Try.func70, Try.ntmps70
    go_wp2_with (first | (go_at_call 93; with_reducible refine (HT.out _).mono ?_; rintro e w1 ⟨rfl, rfl⟩) | (go_at_call 94; with_reducible refine (HC.out _).mono ?_; rintro e w1 ⟨rfl, rfl⟩) | (go_at_call 64; with_reducible refine (HRB.out _).mono ?_; rintro e w1 ⟨rfl, rfl⟩) | (go_at_call 64; with_reducible refine (HRM.out _).mono ?_; rintro e w1 ⟨rfl, rfl⟩) | (go_at_call 64; with_reducible refine (HRS.out _).mono ?_; rintro e w1 ⟨rfl, rfl⟩) | (go_at_call 20; with_reducible refine (HNP.out _).mono ?_; rintro e w1 ⟨rfl, rfl⟩))
    all_goals (first | (go_ret2; exact ⟨rfl, rfl⟩) | (rename_i hz _; exact absurd hz (by unfold undef; simp)) | (rename_i hz; exact absurd hz (by unfold undef; simp)))
  · skip
    go_enter Try.func70, Try.ntmps70
    go_wp2_with (first | (go_at_call 93; with_reducible refine (HT.out _).mono ?_; rintro e w1 ⟨rfl, rfl⟩) | (go_at_call 94; with_reducible refine (HC.out _).mono ?_; rintro e w1 ⟨rfl, rfl⟩) | (go_at_call 64; with_reducible refine (HRB.out _).mono ?_; rintro e w1 ⟨rfl, rfl⟩) | (go_at_call 64; with_reducible refine (HRM.out _).mono ?_; rintro e w1 ⟨rfl, rfl⟩) | (go_at_call 64; with_reducible refine (HRS.out _).mono ?_; rintro e w1 ⟨rfl, rfl⟩) | (go_at_call 20; with_reducible refine (HNP.out _).mono ?_; rintro e w1 ⟨rfl, rfl⟩))
    all_goals (first | (go_ret2; exact ⟨rfl, rfl⟩) | (rename_i hz _; exact absurd hz (by unfold undef; simp)) | (rename_i hz; exact absurd hz (by unfold undef; simp)))
set_option maxRecDepth 100000 in
set_option maxHeartbeats 2000000 in
theorem nl_d0X (s : ByteArray) (w : World) {B W R M D r T K q : List UInt8} {n lb lm d lr lt k : Nat}
    (HT : Hid (∀ W', Calls Try.prog 93 #[.string s, .string ⟨#[45]⟩] W' fun e w' => e = .returned (str B) ∧ w' = W'))
    (HRB : Hid (∀ W', Calls Try.prog 64 #[str B, .func (.func 68) #[] #[]] W' fun e w' => e = .returned (str W) ∧ w' = W'))
    (zB : (bs B).size = lb)
    (zW : (bs W).size = n)
    (hn : n ≤ lb)
    (hxR : (bs B).extract n lb = bs R)
    (heW : (bs W).toList.isEmpty = false)
    (hvar : n = 1 ∨ (1 < n ∧ ∃ h : 0 < (bs W).size, (((bs W)[0].toNat : Int) == 48) = false))
    (heR : (bs R).toList.isEmpty = false)
    (HC : Hid (∀ W', Calls Try.prog 94 #[str R, .string ⟨#[46]⟩] W' fun e w' => e = .returned (.tuple #[str M, .bool true]) ∧ w' = W'))
    (HRM : Hid (∀ W', Calls Try.prog 64 #[str M, .func (.func 68) #[] #[]] W' fun e w' => e = .returned (str D) ∧ w' = W'))
    (heD : (bs D).toList.isEmpty = false)
    (zD : (bs D).size = d)
    (zM : (bs M).size = lm)
    (hd : d ≤ lm)
    (hxr : (bs M).extract d lm = bs r)
    (her : (bs r).toList.isEmpty = false)
    (h101 : ∃ h : 0 < (bs r).size, (bits .or .u8 ((bs r)[0].toNat : Int) 32 == 101) = true)
    (zr : (bs r).size = lr)
    (hr1 : 1 ≤ lr)
    (hxT : (bs r).extract 1 lr = bs T)
    (heT : (bs T).toList.isEmpty = true)
    (HRS : Hid (∀ W', Calls Try.prog 64 #[str T, .func (.func 68) #[] #[]] W' fun e w' => e = .returned (str K) ∧ w' = W'))
    (zT : (bs T).size = lt)
    (heK : (bs K).toList.isEmpty = false)
    (zK : (bs K).size = k)
    (hk : k ≤ lt)
    (hxq : (bs T).extract k lt = bs q)
    (heq : (bs q).toList.isEmpty = false)
    : Calls Try.prog 70 #[.string s] w fun e w' => e = .returned (.tuple #[.int .i64 0, .int .i64 2]) ∧ w' = w := by
  obtain ⟨h101x, h101y⟩ := h101
  rcases hvar with hn1 | ⟨hn1, h48x, h48y⟩
  · subst hn1
    go_enter Try.func70, Try.ntmps70
    go_wp2_with (first | (go_at_call 93; with_reducible refine (HT.out _).mono ?_; rintro e w1 ⟨rfl, rfl⟩) | (go_at_call 94; with_reducible refine (HC.out _).mono ?_; rintro e w1 ⟨rfl, rfl⟩) | (go_at_call 64; with_reducible refine (HRB.out _).mono ?_; rintro e w1 ⟨rfl, rfl⟩) | (go_at_call 64; with_reducible refine (HRM.out _).mono ?_; rintro e w1 ⟨rfl, rfl⟩) | (go_at_call 64; with_reducible refine (HRS.out _).mono ?_; rintro e w1 ⟨rfl, rfl⟩) | (go_at_call 20; with_reducible refine (HNP.out _).mono ?_; rintro e w1 ⟨rfl, rfl⟩))
    all_goals (first | (go_ret2; exact ⟨rfl, rfl⟩) | (rename_i hz _; exact absurd hz (by unfold undef; simp)) | (rename_i hz; exact absurd hz (by unfold undef; simp)))
  · skip
    go_enter Try.func70, Try.ntmps70
    go_wp2_with (first | (go_at_call 93; with_reducible refine (HT.out _).mono ?_; rintro e w1 ⟨rfl, rfl⟩) | (go_at_call 94; with_reducible refine (HC.out _).mono ?_; rintro e w1 ⟨rfl, rfl⟩) | (go_at_call 64; with_reducible refine (HRB.out _).mono ?_; rintro e w1 ⟨rfl, rfl⟩) | (go_at_call 64; with_reducible refine (HRM.out _).mono ?_; rintro e w1 ⟨rfl, rfl⟩) | (go_at_call 64; with_reducible refine (HRS.out _).mono ?_; rintro e w1 ⟨rfl, rfl⟩) | (go_at_call 20; with_reducible refine (HNP.out _).mono ?_; rintro e w1 ⟨rfl, rfl⟩))
    all_goals (first | (go_ret2; exact ⟨rfl, rfl⟩) | (rename_i hz _; exact absurd hz (by unfold undef; simp)) | (rename_i hz; exact absurd hz (by unfold undef; simp)))
set_option maxRecDepth 100000 in
set_option maxHeartbeats 2000000 in
theorem nl_d0P (s : ByteArray) (w : World) {B W R M D r T K q : List UInt8} {n lb lm d lr lt k : Nat}
    (HT : Hid (∀ W', Calls Try.prog 93 #[.string s, .string ⟨#[45]⟩] W' fun e w' => e = .returned (str B) ∧ w' = W'))
    (HRB : Hid (∀ W', Calls Try.prog 64 #[str B, .func (.func 68) #[] #[]] W' fun e w' => e = .returned (str W) ∧ w' = W'))
    (zB : (bs B).size = lb)
    (zW : (bs W).size = n)
    (hn : n ≤ lb)
    (hxR : (bs B).extract n lb = bs R)
    (heW : (bs W).toList.isEmpty = false)
    (hvar : n = 1 ∨ (1 < n ∧ ∃ h : 0 < (bs W).size, (((bs W)[0].toNat : Int) == 48) = false))
    (heR : (bs R).toList.isEmpty = false)
    (HC : Hid (∀ W', Calls Try.prog 94 #[str R, .string ⟨#[46]⟩] W' fun e w' => e = .returned (.tuple #[str M, .bool true]) ∧ w' = W'))
    (HRM : Hid (∀ W', Calls Try.prog 64 #[str M, .func (.func 68) #[] #[]] W' fun e w' => e = .returned (str D) ∧ w' = W'))
    (heD : (bs D).toList.isEmpty = false)
    (zD : (bs D).size = d)
    (zM : (bs M).size = lm)
    (hd : d ≤ lm)
    (hxr : (bs M).extract d lm = bs r)
    (her : (bs r).toList.isEmpty = false)
    (h101 : ∃ h : 0 < (bs r).size, (bits .or .u8 ((bs r)[0].toNat : Int) 32 == 101) = true)
    (zr : (bs r).size = lr)
    (hr1 : 1 ≤ lr)
    (hxT : (bs r).extract 1 lr = bs T)
    (heT : (bs T).toList.isEmpty = true)
    (HRS : Hid (∀ W', Calls Try.prog 64 #[str T, .func (.func 68) #[] #[]] W' fun e w' => e = .returned (str K) ∧ w' = W'))
    (zT : (bs T).size = lt)
    (heK : (bs K).toList.isEmpty = false)
    (zK : (bs K).size = k)
    (hk : k ≤ lt)
    (hxq : (bs T).extract k lt = bs q)
    (heq : (bs q).toList.isEmpty = true)
    : Calls Try.prog 70 #[.string s] w fun e w' => e = .returned (.tuple #[.int .i64 0, .int .i64 5]) ∧ w' = w := by
  obtain ⟨h101x, h101y⟩ := h101
  rcases hvar with hn1 | ⟨hn1, h48x, h48y⟩
  · subst hn1
    go_enter Try.func70, Try.ntmps70
    go_wp2_with (first | (go_at_call 93; with_reducible refine (HT.out _).mono ?_; rintro e w1 ⟨rfl, rfl⟩) | (go_at_call 94; with_reducible refine (HC.out _).mono ?_; rintro e w1 ⟨rfl, rfl⟩) | (go_at_call 64; with_reducible refine (HRB.out _).mono ?_; rintro e w1 ⟨rfl, rfl⟩) | (go_at_call 64; with_reducible refine (HRM.out _).mono ?_; rintro e w1 ⟨rfl, rfl⟩) | (go_at_call 64; with_reducible refine (HRS.out _).mono ?_; rintro e w1 ⟨rfl, rfl⟩) | (go_at_call 20; with_reducible refine (HNP.out _).mono ?_; rintro e w1 ⟨rfl, rfl⟩))
    all_goals (first | (go_ret2; exact ⟨rfl, rfl⟩) | (rename_i hz _; exact absurd hz (by unfold undef; simp)) | (rename_i hz; exact absurd hz (by unfold undef; simp)))
  · skip
    go_enter Try.func70, Try.ntmps70
    go_wp2_with (first | (go_at_call 93; with_reducible refine (HT.out _).mono ?_; rintro e w1 ⟨rfl, rfl⟩) | (go_at_call 94; with_reducible refine (HC.out _).mono ?_; rintro e w1 ⟨rfl, rfl⟩) | (go_at_call 64; with_reducible refine (HRB.out _).mono ?_; rintro e w1 ⟨rfl, rfl⟩) | (go_at_call 64; with_reducible refine (HRM.out _).mono ?_; rintro e w1 ⟨rfl, rfl⟩) | (go_at_call 64; with_reducible refine (HRS.out _).mono ?_; rintro e w1 ⟨rfl, rfl⟩) | (go_at_call 20; with_reducible refine (HNP.out _).mono ?_; rintro e w1 ⟨rfl, rfl⟩))
    all_goals (first | (go_ret2; exact ⟨rfl, rfl⟩) | (rename_i hz _; exact absurd hz (by unfold undef; simp)) | (rename_i hz; exact absurd hz (by unfold undef; simp)))
set_option maxRecDepth 100000 in
set_option maxHeartbeats 2000000 in
theorem nl_dpK (s : ByteArray) (w : World) {B W R M D r T S K : List UInt8} {n lb lm d lr lt ls : Nat}
    (HT : Hid (∀ W', Calls Try.prog 93 #[.string s, .string ⟨#[45]⟩] W' fun e w' => e = .returned (str B) ∧ w' = W'))
    (HRB : Hid (∀ W', Calls Try.prog 64 #[str B, .func (.func 68) #[] #[]] W' fun e w' => e = .returned (str W) ∧ w' = W'))
    (zB : (bs B).size = lb)
    (zW : (bs W).size = n)
    (hn : n ≤ lb)
    (hxR : (bs B).extract n lb = bs R)
    (heW : (bs W).toList.isEmpty = false)
    (hvar : n = 1 ∨ (1 < n ∧ ∃ h : 0 < (bs W).size, (((bs W)[0].toNat : Int) == 48) = false))
    (heR : (bs R).toList.isEmpty = false)
    (HC : Hid (∀ W', Calls Try.prog 94 #[str R, .string ⟨#[46]⟩] W' fun e w' => e = .returned (.tuple #[str M, .bool true]) ∧ w' = W'))
    (HRM : Hid (∀ W', Calls Try.prog 64 #[str M, .func (.func 68) #[] #[]] W' fun e w' => e = .returned (str D) ∧ w' = W'))
    (heD : (bs D).toList.isEmpty = false)
    (zD : (bs D).size = d)
    (zM : (bs M).size = lm)
    (hd : d ≤ lm)
    (hxr : (bs M).extract d lm = bs r)
    (her : (bs r).toList.isEmpty = false)
    (h101 : ∃ h : 0 < (bs r).size, (bits .or .u8 ((bs r)[0].toNat : Int) 32 == 101) = true)
    (zr : (bs r).size = lr)
    (hr1 : 1 ≤ lr)
    (hxT : (bs r).extract 1 lr = bs T)
    (heT : (bs T).toList.isEmpty = false)
    (zT : (bs T).size = lt)
    (ht1 : 1 ≤ lt)
    (h43 : ∃ h : 0 < (bs T).size, (((bs T)[0].toNat : Int) == 43) = true)
    (hxS : (bs T).extract 1 lt = bs S)
    (HRS : Hid (∀ W', Calls Try.prog 64 #[str S, .func (.func 68) #[] #[]] W' fun e w' => e = .returned (str K) ∧ w' = W'))
    (zS : (bs S).size = ls)
    (heK : (bs K).toList.isEmpty = true)
    : Calls Try.prog 70 #[.string s] w fun e w' => e = .returned (.tuple #[.int .i64 0, .int .i64 2]) ∧ w' = w := by
  obtain ⟨h101x, h101y⟩ := h101
  obtain ⟨h43x, h43y⟩ := h43
  rcases hvar with hn1 | ⟨hn1, h48x, h48y⟩
  · subst hn1
    go_enter Try.func70, Try.ntmps70
    go_wp2_with (first | (go_at_call 93; with_reducible refine (HT.out _).mono ?_; rintro e w1 ⟨rfl, rfl⟩) | (go_at_call 94; with_reducible refine (HC.out _).mono ?_; rintro e w1 ⟨rfl, rfl⟩) | (go_at_call 64; with_reducible refine (HRB.out _).mono ?_; rintro e w1 ⟨rfl, rfl⟩) | (go_at_call 64; with_reducible refine (HRM.out _).mono ?_; rintro e w1 ⟨rfl, rfl⟩) | (go_at_call 64; with_reducible refine (HRS.out _).mono ?_; rintro e w1 ⟨rfl, rfl⟩) | (go_at_call 20; with_reducible refine (HNP.out _).mono ?_; rintro e w1 ⟨rfl, rfl⟩))
    all_goals (first | (go_ret2; exact ⟨rfl, rfl⟩) | (rename_i hz _; exact absurd hz (by unfold undef; simp)) | (rename_i hz; exact absurd hz (by unfold undef; simp)))
  · skip
    go_enter Try.func70, Try.ntmps70
    go_wp2_with (first | (go_at_call 93; with_reducible refine (HT.out _).mono ?_; rintro e w1 ⟨rfl, rfl⟩) | (go_at_call 94; with_reducible refine (HC.out _).mono ?_; rintro e w1 ⟨rfl, rfl⟩) | (go_at_call 64; with_reducible refine (HRB.out _).mono ?_; rintro e w1 ⟨rfl, rfl⟩) | (go_at_call 64; with_reducible refine (HRM.out _).mono ?_; rintro e w1 ⟨rfl, rfl⟩) | (go_at_call 64; with_reducible refine (HRS.out _).mono ?_; rintro e w1 ⟨rfl, rfl⟩) | (go_at_call 20; with_reducible refine (HNP.out _).mono ?_; rintro e w1 ⟨rfl, rfl⟩))
    all_goals (first | (go_ret2; exact ⟨rfl, rfl⟩) | (rename_i hz _; exact absurd hz (by unfold undef; simp)) | (rename_i hz; exact absurd hz (by unfold undef; simp)))
set_option maxRecDepth 100000 in
set_option maxHeartbeats 2000000 in
theorem nl_dpX (s : ByteArray) (w : World) {B W R M D r T S K q : List UInt8} {n lb lm d lr lt ls k : Nat}
    (HT : Hid (∀ W', Calls Try.prog 93 #[.string s, .string ⟨#[45]⟩] W' fun e w' => e = .returned (str B) ∧ w' = W'))
    (HRB : Hid (∀ W', Calls Try.prog 64 #[str B, .func (.func 68) #[] #[]] W' fun e w' => e = .returned (str W) ∧ w' = W'))
    (zB : (bs B).size = lb)
    (zW : (bs W).size = n)
    (hn : n ≤ lb)
    (hxR : (bs B).extract n lb = bs R)
    (heW : (bs W).toList.isEmpty = false)
    (hvar : n = 1 ∨ (1 < n ∧ ∃ h : 0 < (bs W).size, (((bs W)[0].toNat : Int) == 48) = false))
    (heR : (bs R).toList.isEmpty = false)
    (HC : Hid (∀ W', Calls Try.prog 94 #[str R, .string ⟨#[46]⟩] W' fun e w' => e = .returned (.tuple #[str M, .bool true]) ∧ w' = W'))
    (HRM : Hid (∀ W', Calls Try.prog 64 #[str M, .func (.func 68) #[] #[]] W' fun e w' => e = .returned (str D) ∧ w' = W'))
    (heD : (bs D).toList.isEmpty = false)
    (zD : (bs D).size = d)
    (zM : (bs M).size = lm)
    (hd : d ≤ lm)
    (hxr : (bs M).extract d lm = bs r)
    (her : (bs r).toList.isEmpty = false)
    (h101 : ∃ h : 0 < (bs r).size, (bits .or .u8 ((bs r)[0].toNat : Int) 32 == 101) = true)
    (zr : (bs r).size = lr)
    (hr1 : 1 ≤ lr)
    (hxT : (bs r).extract 1 lr = bs T)
    (heT : (bs T).toList.isEmpty = false)
    (zT : (bs T).size = lt)
    (ht1 : 1 ≤ lt)
    (h43 : ∃ h : 0 < (bs T).size, (((bs T)[0].toNat : Int) == 43) = true)
    (hxS : (bs T).extract 1 lt = bs S)
    (HRS : Hid (∀ W', Calls Try.prog 64 #[str S, .func (.func 68) #[] #[]] W' fun e w' => e = .returned (str K) ∧ w' = W'))
    (zS : (bs S).size = ls)
    (heK : (bs K).toList.isEmpty = false)
    (zK : (bs K).size = k)
    (hk : k ≤ ls)
    (hxq : (bs S).extract k ls = bs q)
    (heq : (bs q).toList.isEmpty = false)
    : Calls Try.prog 70 #[.string s] w fun e w' => e = .returned (.tuple #[.int .i64 0, .int .i64 2]) ∧ w' = w := by
  obtain ⟨h101x, h101y⟩ := h101
  obtain ⟨h43x, h43y⟩ := h43
  rcases hvar with hn1 | ⟨hn1, h48x, h48y⟩
  · subst hn1
    go_enter Try.func70, Try.ntmps70
    go_wp2_with (first | (go_at_call 93; with_reducible refine (HT.out _).mono ?_; rintro e w1 ⟨rfl, rfl⟩) | (go_at_call 94; with_reducible refine (HC.out _).mono ?_; rintro e w1 ⟨rfl, rfl⟩) | (go_at_call 64; with_reducible refine (HRB.out _).mono ?_; rintro e w1 ⟨rfl, rfl⟩) | (go_at_call 64; with_reducible refine (HRM.out _).mono ?_; rintro e w1 ⟨rfl, rfl⟩) | (go_at_call 64; with_reducible refine (HRS.out _).mono ?_; rintro e w1 ⟨rfl, rfl⟩) | (go_at_call 20; with_reducible refine (HNP.out _).mono ?_; rintro e w1 ⟨rfl, rfl⟩))
    all_goals (first | (go_ret2; exact ⟨rfl, rfl⟩) | (rename_i hz _; exact absurd hz (by unfold undef; simp)) | (rename_i hz; exact absurd hz (by unfold undef; simp)))
  · skip
    go_enter Try.func70, Try.ntmps70
    go_wp2_with (first | (go_at_call 93; with_reducible refine (HT.out _).mono ?_; rintro e w1 ⟨rfl, rfl⟩) | (go_at_call 94; with_reducible refine (HC.out _).mono ?_; rintro e w1 ⟨rfl, rfl⟩) | (go_at_call 64; with_reducible refine (HRB.out _).mono ?_; rintro e w1 ⟨rfl, rfl⟩) | (go_at_call 64; with_reducible refine (HRM.out _).mono ?_; rintro e w1 ⟨rfl, rfl⟩) | (go_at_call 64; with_reducible refine (HRS.out _).mono ?_; rintro e w1 ⟨rfl, rfl⟩) | (go_at_call 20; with_reducible refine (HNP.out _).mono ?_; rintro e w1 ⟨rfl, rfl⟩))
    all_goals (first | (go_ret2; exact ⟨rfl, rfl⟩) | (rename_i hz _; exact absurd hz (by unfold undef; simp)) | (rename_i hz; exact absurd hz (by unfold undef; simp)))
set_option maxRecDepth 100000 in
set_option maxHeartbeats 2000000 in
theorem nl_dpP (s : ByteArray) (w : World) {B W R M D r T S K q : List UInt8} {n lb lm d lr lt ls k : Nat}
    (HT : Hid (∀ W', Calls Try.prog 93 #[.string s, .string ⟨#[45]⟩] W' fun e w' => e = .returned (str B) ∧ w' = W'))
    (HRB : Hid (∀ W', Calls Try.prog 64 #[str B, .func (.func 68) #[] #[]] W' fun e w' => e = .returned (str W) ∧ w' = W'))
    (zB : (bs B).size = lb)
    (zW : (bs W).size = n)
    (hn : n ≤ lb)
    (hxR : (bs B).extract n lb = bs R)
    (heW : (bs W).toList.isEmpty = false)
    (hvar : n = 1 ∨ (1 < n ∧ ∃ h : 0 < (bs W).size, (((bs W)[0].toNat : Int) == 48) = false))
    (heR : (bs R).toList.isEmpty = false)
    (HC : Hid (∀ W', Calls Try.prog 94 #[str R, .string ⟨#[46]⟩] W' fun e w' => e = .returned (.tuple #[str M, .bool true]) ∧ w' = W'))
    (HRM : Hid (∀ W', Calls Try.prog 64 #[str M, .func (.func 68) #[] #[]] W' fun e w' => e = .returned (str D) ∧ w' = W'))
    (heD : (bs D).toList.isEmpty = false)
    (zD : (bs D).size = d)
    (zM : (bs M).size = lm)
    (hd : d ≤ lm)
    (hxr : (bs M).extract d lm = bs r)
    (her : (bs r).toList.isEmpty = false)
    (h101 : ∃ h : 0 < (bs r).size, (bits .or .u8 ((bs r)[0].toNat : Int) 32 == 101) = true)
    (zr : (bs r).size = lr)
    (hr1 : 1 ≤ lr)
    (hxT : (bs r).extract 1 lr = bs T)
    (heT : (bs T).toList.isEmpty = false)
    (zT : (bs T).size = lt)
    (ht1 : 1 ≤ lt)
    (h43 : ∃ h : 0 < (bs T).size, (((bs T)[0].toNat : Int) == 43) = true)
    (hxS : (bs T).extract 1 lt = bs S)
    (HRS : Hid (∀ W', Calls Try.prog 64 #[str S, .func (.func 68) #[] #[]] W' fun e w' => e = .returned (str K) ∧ w' = W'))
    (zS : (bs S).size = ls)
    (heK : (bs K).toList.isEmpty = false)
    (zK : (bs K).size = k)
    (hk : k ≤ ls)
    (hxq : (bs S).extract k ls = bs q)
    (heq : (bs q).toList.isEmpty = true)
    : Calls Try.prog 70 #[.string s] w fun e w' => e = .returned (.tuple #[.int .i64 0, .int .i64 5]) ∧ w' = w := by
  obtain ⟨h101x, h101y⟩ := h101
  obtain ⟨h43x, h43y⟩ := h43
  rcases hvar with hn1 | ⟨hn1, h48x, h48y⟩
  · subst hn1
    go_enter Try.func70, Try.ntmps70
    go_wp2_with (first | (go_at_call 93; with_reducible refine (HT.out _).mono ?_; rintro e w1 ⟨rfl, rfl⟩) | (go_at_call 94; with_reducible refine (HC.out _).mono ?_; rintro e w1 ⟨rfl, rfl⟩) | (go_at_call 64; with_reducible refine (HRB.out _).mono ?_; rintro e w1 ⟨rfl, rfl⟩) | (go_at_call 64; with_reducible refine (HRM.out _).mono ?_; rintro e w1 ⟨rfl, rfl⟩) | (go_at_call 64; with_reducible refine (HRS.out _).mono ?_; rintro e w1 ⟨rfl, rfl⟩) | (go_at_call 20; with_reducible refine (HNP.out _).mono ?_; rintro e w1 ⟨rfl, rfl⟩))
    all_goals (first | (go_ret2; exact ⟨rfl, rfl⟩) | (rename_i hz _; exact absurd hz (by unfold undef; simp)) | (rename_i hz; exact absurd hz (by unfold undef; simp)))
  · skip
    go_enter Try.func70, Try.ntmps70
    go_wp2_with (first | (go_at_call 93; with_reducible refine (HT.out _).mono ?_; rintro e w1 ⟨rfl, rfl⟩) | (go_at_call 94; with_reducible refine (HC.out _).mono ?_; rintro e w1 ⟨rfl, rfl⟩) | (go_at_call 64; with_reducible refine (HRB.out _).mono ?_; rintro e w1 ⟨rfl, rfl⟩) | (go_at_call 64; with_reducible refine (HRM.out _).mono ?_; rintro e w1 ⟨rfl, rfl⟩) | (go_at_call 64; with_reducible refine (HRS.out _).mono ?_; rintro e w1 ⟨rfl, rfl⟩) | (go_at_call 20; with_reducible refine (HNP.out _).mono ?_; rintro e w1 ⟨rfl, rfl⟩))
    all_goals (first | (go_ret2; exact ⟨rfl, rfl⟩) | (rename_i hz _; exact absurd hz (by unfold undef; simp)) | (rename_i hz; exact absurd hz (by unfold undef; simp)))
set_option maxRecDepth 100000 in
set_option maxHeartbeats 2000000 in
theorem nl_dmK (s : ByteArray) (w : World) {B W R M D r T S K : List UInt8} {n lb lm d lr lt ls : Nat}
    (HT : Hid (∀ W', Calls Try.prog 93 #[.string s, .string ⟨#[45]⟩] W' fun e w' => e = .returned (str B) ∧ w' = W'))
    (HRB : Hid (∀ W', Calls Try.prog 64 #[str B, .func (.func 68) #[] #[]] W' fun e w' => e = .returned (str W) ∧ w' = W'))
    (zB : (bs B).size = lb)
    (zW : (bs W).size = n)
    (hn : n ≤ lb)
    (hxR : (bs B).extract n lb = bs R)
    (heW : (bs W).toList.isEmpty = false)
    (hvar : n = 1 ∨ (1 < n ∧ ∃ h : 0 < (bs W).size, (((bs W)[0].toNat : Int) == 48) = false))
    (heR : (bs R).toList.isEmpty = false)
    (HC : Hid (∀ W', Calls Try.prog 94 #[str R, .string ⟨#[46]⟩] W' fun e w' => e = .returned (.tuple #[str M, .bool true]) ∧ w' = W'))
    (HRM : Hid (∀ W', Calls Try.prog 64 #[str M, .func (.func 68) #[] #[]] W' fun e w' => e = .returned (str D) ∧ w' = W'))
    (heD : (bs D).toList.isEmpty = false)
    (zD : (bs D).size = d)
    (zM : (bs M).size = lm)
    (hd : d ≤ lm)
    (hxr : (bs M).extract d lm = bs r)
    (her : (bs r).toList.isEmpty = false)
    (h101 : ∃ h : 0 < (bs r).size, (bits .or .u8 ((bs r)[0].toNat : Int) 32 == 101) = true)
    (zr : (bs r).size = lr)
    (hr1 : 1 ≤ lr)
    (hxT : (bs r).extract 1 lr = bs T)
    (heT : (bs T).toList.isEmpty = false)
    (zT : (bs T).size = lt)
    (ht1 : 1 ≤ lt)
    (h43 : ∃ h : 0 < (bs T).size, (((bs T)[0].toNat : Int) == 43) = false ∧ (((bs T)[0].toNat : Int) == 45) = true)
    (hxS : (bs T).extract 1 lt = bs S)
    (HRS : Hid (∀ W', Calls Try.prog 64 #[str S, .func (.func 68) #[] #[]] W' fun e w' => e = .returned (str K) ∧ w' = W'))
    (zS : (bs S).size = ls)
    (heK : (bs K).toList.isEmpty = true)
    : Calls Try.prog 70 #[.string s] w fun e w' => e = .returned (.tuple #[.int .i64 0, .int .i64 2]) ∧ w' = w := by
  obtain ⟨h101x, h101y⟩ := h101
  obtain ⟨h43x, h43y, h43z⟩ := h43
  rcases hvar with hn1 | ⟨hn1, h48x, h48y⟩
  · subst hn1
    go_enter Try.func70, Try.ntmps70
    go_wp2_with (first | (go_at_call 93; with_reducible refine (HT.out _).mono ?_; rintro e w1 ⟨rfl, rfl⟩) | (go_at_call 94; with_reducible refine (HC.out _).mono ?_; rintro e w1 ⟨rfl, rfl⟩) | (go_at_call 64; with_reducible refine (HRB.out _).mono ?_; rintro e w1 ⟨rfl, rfl⟩) | (go_at_call 64; with_reducible refine (HRM.out _).mono ?_; rintro e w1 ⟨rfl, rfl⟩) | (go_at_call 64; with_reducible refine (HRS.out _).mono ?_; rintro e w1 ⟨rfl, rfl⟩) | (go_at_call 20; with_reducible refine (HNP.out _).mono ?_; rintro e w1 ⟨rfl, rfl⟩))
    all_goals (first | (go_ret2; exact ⟨rfl, rfl⟩) | (rename_i hz _; exact absurd hz (by unfold undef; simp)) | (rename_i hz; exact absurd hz (by unfold undef; simp)))
  · skip
    go_enter Try.func70, Try.ntmps70
    go_wp2_with (first | (go_at_call 93; with_reducible refine (HT.out _).mono ?_; rintro e w1 ⟨rfl, rfl⟩) | (go_at_call 94; with_reducible refine (HC.out _).mono ?_; rintro e w1 ⟨rfl, rfl⟩) | (go_at_call 64; with_reducible refine (HRB.out _).mono ?_; rintro e w1 ⟨rfl, rfl⟩) | (go_at_call 64; with_reducible refine (HRM.out _).mono ?_; rintro e w1 ⟨rfl, rfl⟩) | (go_at_call 64; with_reducible refine (HRS.out _).mono ?_; rintro e w1 ⟨rfl, rfl⟩) | (go_at_call 20; with_reducible refine (HNP.out _).mono ?_; rintro e w1 ⟨rfl, rfl⟩))
    all_goals (first | (go_ret2; exact ⟨rfl, rfl⟩) | (rename_i hz _; exact absurd hz (by unfold undef; simp)) | (rename_i hz; exact absurd hz (by unfold undef; simp)))
set_option maxRecDepth 100000 in
set_option maxHeartbeats 2000000 in
theorem nl_dmX (s : ByteArray) (w : World) {B W R M D r T S K q : List UInt8} {n lb lm d lr lt ls k : Nat}
    (HT : Hid (∀ W', Calls Try.prog 93 #[.string s, .string ⟨#[45]⟩] W' fun e w' => e = .returned (str B) ∧ w' = W'))
    (HRB : Hid (∀ W', Calls Try.prog 64 #[str B, .func (.func 68) #[] #[]] W' fun e w' => e = .returned (str W) ∧ w' = W'))
    (zB : (bs B).size = lb)
    (zW : (bs W).size = n)
    (hn : n ≤ lb)
    (hxR : (bs B).extract n lb = bs R)
    (heW : (bs W).toList.isEmpty = false)
    (hvar : n = 1 ∨ (1 < n ∧ ∃ h : 0 < (bs W).size, (((bs W)[0].toNat : Int) == 48) = false))
    (heR : (bs R).toList.isEmpty = false)
    (HC : Hid (∀ W', Calls Try.prog 94 #[str R, .string ⟨#[46]⟩] W' fun e w' => e = .returned (.tuple #[str M, .bool true]) ∧ w' = W'))
    (HRM : Hid (∀ W', Calls Try.prog 64 #[str M, .func (.func 68) #[] #[]] W' fun e w' => e = .returned (str D) ∧ w' = W'))
    (heD : (bs D).toList.isEmpty = false)
    (zD : (bs D).size = d)
    (zM : (bs M).size = lm)
    (hd : d ≤ lm)
    (hxr : (bs M).extract d lm = bs r)
    (her : (bs r).toList.isEmpty = false)
    (h101 : ∃ h : 0 < (bs r).size, (bits .or .u8 ((bs r)[0].toNat : Int) 32 == 101) = true)
    (zr : (bs r).size = lr)
    (hr1 : 1 ≤ lr)
    (hxT : (bs r).extract 1 lr = bs T)
    (heT : (bs T).toList.isEmpty = false)
    (zT : (bs T).size = lt)
    (ht1 : 1 ≤ lt)
    (h43 : ∃ h : 0 < (bs T).size, (((bs T)[0].toNat : Int) == 43) = false ∧ (((bs T)[0].toNat : Int) == 45) = true)
    (hxS : (bs T).extract 1 lt = bs S)
    (HRS : Hid (∀ W', Calls Try.prog 64 #[str S, .func (.func 68) #[] #[]] W' fun e w' => e = .returned (str K) ∧ w' = W'))
    (zS : (bs S).size = ls)
    (heK : (bs K).toList.isEmpty = false)
    (zK : (bs K).size = k)
    (hk : k ≤ ls)
    (hxq : (bs S).extract k ls = bs q)
    (heq : (bs q).toList.isEmpty = false)
    : Calls Try.prog 70 #[.string s] w fun e w' => e = .returned (.tuple #[.int .i64 0, .int .i64 2]) ∧ w' = w := by
  obtain ⟨h101x, h101y⟩ := h101
  obtain ⟨h43x, h43y, h43z⟩ := h43
  rcases hvar with hn1 | ⟨hn1, h48x, h48y⟩
  · subst hn1
    go_enter Try.func70, Try.ntmps70
    go_wp2_with (first | (go_at_call 93; with_reducible refine (HT.out _).mono ?_; rintro e w1 ⟨rfl, rfl⟩) | (go_at_call 94; with_reducible refine (HC.out _).mono ?_; rintro e w1 ⟨rfl, rfl⟩) | (go_at_call 64; with_reducible refine (HRB.out _).mono ?_; rintro e w1 ⟨rfl, rfl⟩) | (go_at_call 64; with_reducible refine (HRM.out _).mono ?_; rintro e w1 ⟨rfl, rfl⟩) | (go_at_call 64; with_reducible refine (HRS.out _).mono ?_; rintro e w1 ⟨rfl, rfl⟩) | (go_at_call 20; with_reducible refine (HNP.out _).mono ?_; rintro e w1 ⟨rfl, rfl⟩))
    all_goals (first | (go_ret2; exact ⟨rfl, rfl⟩) | (rename_i hz _; exact absurd hz (by unfold undef; simp)) | (rename_i hz; exact absurd hz (by unfold undef; simp)))
  · skip
    go_enter Try.func70, Try.ntmps70
    go_wp2_with (first | (go_at_call 93; with_reducible refine (HT.out _).mono ?_; rintro e w1 ⟨rfl, rfl⟩) | (go_at_call 94; with_reducible refine (HC.out _).mono ?_; rintro e w1 ⟨rfl, rfl⟩) | (go_at_call 64; with_reducible refine (HRB.out _).mono ?_; rintro e w1 ⟨rfl, rfl⟩) | (go_at_call 64; with_reducible refine (HRM.out _).mono ?_; rintro e w1 ⟨rfl, rfl⟩) | (go_at_call 64; with_reducible refine (HRS.out _).mono ?_; rintro e w1 ⟨rfl, rfl⟩) | (go_at_call 20; with_reducible refine (HNP.out _).mono ?_; rintro e w1 ⟨rfl, rfl⟩))
    all_goals (first | (go_ret2; exact ⟨rfl, rfl⟩) | (rename_i hz _; exact absurd hz (by unfold undef; simp)) | (rename_i hz; exact absurd hz (by unfold undef; simp)))
set_option maxRecDepth 100000 in
set_option maxHeartbeats 2000000 in
theorem nl_dmP (s : ByteArray) (w : World) {B W R M D r T S K q : List UInt8} {n lb lm d lr lt ls k : Nat}
    (HT : Hid (∀ W', Calls Try.prog 93 #[.string s, .string ⟨#[45]⟩] W' fun e w' => e = .returned (str B) ∧ w' = W'))
    (HRB : Hid (∀ W', Calls Try.prog 64 #[str B, .func (.func 68) #[] #[]] W' fun e w' => e = .returned (str W) ∧ w' = W'))
    (zB : (bs B).size = lb)
    (zW : (bs W).size = n)
    (hn : n ≤ lb)
    (hxR : (bs B).extract n lb = bs R)
    (heW : (bs W).toList.isEmpty = false)
    (hvar : n = 1 ∨ (1 < n ∧ ∃ h : 0 < (bs W).size, (((bs W)[0].toNat : Int) == 48) = false))
    (heR : (bs R).toList.isEmpty = false)
    (HC : Hid (∀ W', Calls Try.prog 94 #[str R, .string ⟨#[46]⟩] W' fun e w' => e = .returned (.tuple #[str M, .bool true]) ∧ w' = W'))
    (HRM : Hid (∀ W', Calls Try.prog 64 #[str M, .func (.func 68) #[] #[]] W' fun e w' => e = .returned (str D) ∧ w' = W'))
    (heD : (bs D).toList.isEmpty = false)
    (zD : (bs D).size = d)
    (zM : (bs M).size = lm)
    (hd : d ≤ lm)
    (hxr : (bs M).extract d lm = bs r)
    (her : (bs r).toList.isEmpty = false)
    (h101 : ∃ h : 0 < (bs r).size, (bits .or .u8 ((bs r)[0].toNat : Int) 32 == 101) = true)
    (zr : (bs r).size = lr)
    (hr1 : 1 ≤ lr)
    (hxT : (bs r).extract 1 lr = bs T)
    (heT : (bs T).toList.isEmpty = false)
    (zT : (bs T).size = lt)
    (ht1 : 1 ≤ lt)
    (h43 : ∃ h : 0 < (bs T).size, (((bs T)[0].toNat : Int) == 43) = false ∧ (((bs T)[0].toNat : Int) == 45) = true)
    (hxS : (bs T).extract 1 lt = bs S)
    (HRS : Hid (∀ W', Calls Try.prog 64 #[str S, .func (.func 68) #[] #[]] W' fun e w' => e = .returned (str K) ∧ w' = W'))
    (zS : (bs S).size = ls)
    (heK : (bs K).toList.isEmpty = false)
    (zK : (bs K).size = k)
    (hk : k ≤ ls)
    (hxq : (bs S).extract k ls = bs q)
    (heq : (bs q).toList.isEmpty = true)
    : Calls Try.prog 70 #[.string s] w fun e w' => e = .returned (.tuple #[.int .i64 0, .int .i64 5]) ∧ w' = w := by
  obtain ⟨h101x, h101y⟩ := h101
  obtain ⟨h43x, h43y, h43z⟩ := h43
  rcases hvar with hn1 | ⟨hn1, h48x, h48y⟩
  · subst hn1
    go_enter Try.func70, Try.ntmps70
    go_wp2_with (first | (go_at_call 93; with_reducible refine (HT.out _).mono ?_; rintro e w1 ⟨rfl, rfl⟩) | (go_at_call 94; with_reducible refine (HC.out _).mono ?_; rintro e w1 ⟨rfl, rfl⟩) | (go_at_call 64; with_reducible refine (HRB.out _).mono ?_; rintro e w1 ⟨rfl, rfl⟩) | (go_at_call 64; with_reducible refine (HRM.out _).mono ?_; rintro e w1 ⟨rfl, rfl⟩) | (go_at_call 64; with_reducible refine (HRS.out _).mono ?_; rintro e w1 ⟨rfl, rfl⟩) | (go_at_call 20; with_reducible refine (HNP.out _).mono ?_; rintro e w1 ⟨rfl, rfl⟩))
    all_goals (first | (go_ret2; exact ⟨rfl, rfl⟩) | (rename_i hz _; exact absurd hz (by unfold undef; simp)) | (rename_i hz; exact absurd hz (by unfold undef; simp)))
  · skip
    go_enter Try.func70, Try.ntmps70
    go_wp2_with (first | (go_at_call 93; with_reducible refine (HT.out _).mono ?_; rintro e w1 ⟨rfl, rfl⟩) | (go_at_call 94; with_reducible refine (HC.out _).mono ?_; rintro e w1 ⟨rfl, rfl⟩) | (go_at_call 64; with_reducible refine (HRB.out _).mono ?_; rintro e w1 ⟨rfl, rfl⟩) | (go_at_call 64; with_reducible refine (HRM.out _).mono ?_; rintro e w1 ⟨rfl, rfl⟩) | (go_at_call 64; with_reducible refine (HRS.out _).mono ?_; rintro e w1 ⟨rfl, rfl⟩) | (go_at_call 20; with_reducible refine (HNP.out _).mono ?_; rintro e w1 ⟨rfl, rfl⟩))
    all_goals (first | (go_ret2; exact ⟨rfl, rfl⟩) | (rename_i hz _; exact absurd hz (by unfold undef; simp)) | (rename_i hz; exact absurd hz (by unfold undef; simp)))
set_option maxRecDepth 100000 in
set_option maxHeartbeats 2000000 in
theorem nl_dnK (s : ByteArray) (w : World) {B W R M D r T K : List UInt8} {n lb lm d lr lt : Nat}
    (HT : Hid (∀ W', Calls Try.prog 93 #[.string s, .string ⟨#[45]⟩] W' fun e w' => e = .returned (str B) ∧ w' = W'))
    (HRB : Hid (∀ W', Calls Try.prog 64 #[str B, .func (.func 68) #[] #[]] W' fun e w' => e = .returned (str W) ∧ w' = W'))
    (zB : (bs B).size = lb)
    (zW : (bs W).size = n)
    (hn : n ≤ lb)
    (hxR : (bs B).extract n lb = bs R)
    (heW : (bs W).toList.isEmpty = false)
    (hvar : n = 1 ∨ (1 < n ∧ ∃ h : 0 < (bs W).size, (((bs W)[0].toNat : Int) == 48) = false))
    (heR : (bs R).toList.isEmpty = false)
    (HC : Hid (∀ W', Calls Try.prog 94 #[str R, .string ⟨#[46]⟩] W' fun e w' => e = .returned (.tuple #[str M, .bool true]) ∧ w' = W'))
    (HRM : Hid (∀ W', Calls Try.prog 64 #[str M, .func (.func 68) #[] #[]] W' fun e w' => e = .returned (str D) ∧ w' = W'))
    (heD : (bs D).toList.isEmpty = false)
    (zD : (bs D).size = d)
    (zM : (bs M).size = lm)
    (hd : d ≤ lm)
    (hxr : (bs M).extract d lm = bs r)
    (her : (bs r).toList.isEmpty = false)
    (h101 : ∃ h : 0 < (bs r).size, (bits .or .u8 ((bs r)[0].toNat : Int) 32 == 101) = true)
    (zr : (bs r).size = lr)
    (hr1 : 1 ≤ lr)
    (hxT : (bs r).extract 1 lr = bs T)
    (heT : (bs T).toList.isEmpty = false)
    (zT : (bs T).size = lt)
    (ht1 : 1 ≤ lt)
    (h43 : ∃ h : 0 < (bs T).size, (((bs T)[0].toNat : Int) == 43) = false ∧ (((bs T)[0].toNat : Int) == 45) = false)
    (HRS : Hid (∀ W', Calls Try.prog 64 #[str T, .func (.func 68) #[] #[]] W' fun e w' => e = .returned (str K) ∧ w' = W'))
    (heK : (bs K).toList.isEmpty = true)
    : Calls Try.prog 70 #[.string s] w fun e w' => e = .returned (.tuple #[.int .i64 0, .int .i64 2]) ∧ w' = w := by
  obtain ⟨h101x, h101y⟩ := h101
  obtain ⟨h43x, h43y, h43z⟩ := h43
  rcases hvar with hn1 | ⟨hn1, h48x, h48y⟩
  · subst hn1
    go_enter Try.func70, Try.ntmps70
    go_wp2_with (first | (go_at_call 93; with_reducible refine (HT.out _).mono ?_; rintro e w1 ⟨rfl, rfl⟩) | (go_at_call 94; with_reducible refine (HC.out _).mono ?_; rintro e w1 ⟨rfl, rfl⟩) | (go_at_call 64; with_reducible refine (HRB.out _).mono ?_; rintro e w1 ⟨rfl, rfl⟩) | (go_at_call 64; with_reducible refine (HRM.out _).mono ?_; rintro e w1 ⟨rfl, rfl⟩) | (go_at_call 64; with_reducible refine (HRS.out _).mono ?_; rintro e w1 ⟨rfl, rfl⟩) | (go_at_call 20; with_reducible refine (HNP.out _).mono ?_; rintro e w1 ⟨rfl, rfl⟩))
    all_goals (first | (go_ret2; exact ⟨rfl, rfl⟩) | (rename_i hz _; exact absurd hz (by unfold undef; simp)) | (rename_i hz; exact absurd hz (by unfold undef; simp)))
  · skip
    go_enter Try.func70, Try.ntmps70
    go_wp2_with (first | (go_at_call 93; with_reducible refine (HT.out _).mono ?_; rintro e w1 ⟨rfl, rfl⟩) | (go_at_call 94; with_reducible refine (HC.out _).mono ?_; rintro e w1 ⟨rfl, rfl⟩) | (go_at_call 64; with_reducible refine (HRB.out _).mono ?_; rintro e w1 ⟨rfl, rfl⟩) | (go_at_call 64; with_reducible refine (HRM.out _).mono ?_; rintro e w1 ⟨rfl, rfl⟩) | (go_at_call 64; with_reducible refine (HRS.out _).mono ?_; rintro e w1 ⟨rfl, rfl⟩) | (go_at_call 20; with_reducible refine (HNP.out _).mono ?_; rintro e w1 ⟨rfl, rfl⟩))
    all_goals (first | (go_ret2; exact ⟨rfl, rfl⟩) | (rename_i hz _; exact absurd hz (by unfold undef; simp)) | (rename_i hz; exact absurd hz (by unfold undef; simp)))
set_option maxRecDepth 100000 in
set_option maxHeartbeats 2000000 in
theorem nl_dnX (s : ByteArray) (w : World) {B W R M D r T K q : List UInt8} {n lb lm d lr lt k : Nat}
    (HT : Hid (∀ W', Calls Try.prog 93 #[.string s, .string ⟨#[45]⟩] W' fun e w' => e = .returned (str B) ∧ w' = W'))
    (HRB : Hid (∀ W', Calls Try.prog 64 #[str B, .func (.func 68) #[] #[]] W' fun e w' => e = .returned (str W) ∧ w' = W'))
    (zB : (bs B).size = lb)
    (zW : (bs W).size = n)
    (hn : n ≤ lb)
    (hxR : (bs B).extract n lb = bs R)
    (heW : (bs W).toList.isEmpty = false)
    (hvar : n = 1 ∨ (1 < n ∧ ∃ h : 0 < (bs W).size, (((bs W)[0].toNat : Int) == 48) = false))
    (heR : (bs R).toList.isEmpty = false)
    (HC : Hid (∀ W', Calls Try.prog 94 #[str R, .string ⟨#[46]⟩] W' fun e w' => e = .returned (.tuple #[str M, .bool true]) ∧ w' = W'))
    (HRM : Hid (∀ W', Calls Try.prog 64 #[str M, .func (.func 68) #[] #[]] W' fun e w' => e = .returned (str D) ∧ w' = W'))
    (heD : (bs D).toList.isEmpty = false)
    (zD : (bs D).size = d)
    (zM : (bs M).size = lm)
    (hd : d ≤ lm)
    (hxr : (bs M).extract d lm = bs r)
    (her : (bs r).toList.isEmpty = false)
    (h101 : ∃ h : 0 < (bs r).size, (bits .or .u8 ((bs r)[0].toNat : Int) 32 == 101) = true)
    (zr : (bs r).size = lr)
    (hr1 : 1 ≤ lr)
    (hxT : (bs r).extract 1 lr = bs T)
    (heT : (bs T).toList.isEmpty = false)
    (zT : (bs T).size = lt)
    (ht1 : 1 ≤ lt)
    (h43 : ∃ h : 0 < (bs T).size, (((bs T)[0].toNat : Int) == 43) = false ∧ (((bs T)[0].toNat : Int) == 45) = false)
    (HRS : Hid (∀ W', Calls Try.prog 64 #[str T, .func (.func 68) #[] #[]] W' fun e w' => e = .returned (str K) ∧ w' = W'))
    (heK : (bs K).toList.isEmpty = false)
    (zK : (bs K).size = k)
    (hk : k ≤ lt)
    (hxq : (bs T).extract k lt = bs q)
    (heq : (bs q).toList.isEmpty = false)
    : Calls Try.prog 70 #[.string s] w fun e w' => e = .returned (.tuple #[.int .i64 0, .int .i64 2]) ∧ w' = w := by
  obtain ⟨h101x, h101y⟩ := h101
  obtain ⟨h43x, h43y, h43z⟩ := h43
  rcases hvar with hn1 | ⟨hn1, h48x, h48y⟩
  · subst hn1
    go_enter Try.func70, Try.ntmps70
    go_wp2_with (first | (go_at_call 93; with_reducible refine (HT.out _).mono ?_; rintro e w1 ⟨rfl, rfl⟩) | (go_at_call 94; with_reducible refine (HC.out _).mono ?_; rintro e w1 ⟨rfl, rfl⟩) | (go_at_call 64; with_reducible refine (HRB.out _).mono ?_; rintro e w1 ⟨rfl, rfl⟩) | (go_at_call 64; with_reducible refine (HRM.out _).mono ?_; rintro e w1 ⟨rfl, rfl⟩) | (go_at_call 64; with_reducible refine (HRS.out _).mono ?_; rintro e w1 ⟨rfl, rfl⟩) | (go_at_call 20; with_reducible refine (HNP.out _).mono ?_; rintro e w1 ⟨rfl, rfl⟩))
    all_goals (first | (go_ret2; exact ⟨rfl, rfl⟩) | (rename_i hz _; exact absurd hz (by unfold undef; simp)) | (rename_i hz; exact absurd hz (by unfold undef; simp)))
  · skip
    go_enter Try.func70, Try.ntmps70
    go_wp2_with (first | (go_at_call 93; with_reducible refine (HT.out _).mono ?_; rintro e w1 ⟨rfl, rfl⟩) | (go_at_call 94; with_reducible refine (HC.out _).mono ?_; rintro e w1 ⟨rfl, rfl⟩) | (go_at_call 64; with_reducible refine (HRB.out _).mono ?_; rintro e w1 ⟨rfl, rfl⟩) | (go_at_call 64; with_reducible refine (HRM.out _).mono ?_; rintro e w1 ⟨rfl, rfl⟩) | (go_at_call 64; with_reducible refine (HRS.out _).mono ?_; rintro e w1 ⟨rfl, rfl⟩) | (go_at_call 20; with_reducible refine (HNP.out _).mono ?_; rintro e w1 ⟨rfl, rfl⟩))
    all_goals (first | (go_ret2; exact ⟨rfl, rfl⟩) | (rename_i hz _; exact absurd hz (by unfold undef; simp)) | (rename_i hz; exact absurd hz (by unfold undef; simp)))
set_option maxRecDepth 100000 in
set_option maxHeartbeats 2000000 in
theorem nl_dnP (s : ByteArray) (w : World) {B W R M D r T K q : List UInt8} {n lb lm d lr lt k : Nat}
    (HT : Hid (∀ W', Calls Try.prog 93 #[.string s, .string ⟨#[45]⟩] W' fun e w' => e = .returned (str B) ∧ w' = W'))
    (HRB : Hid (∀ W', Calls Try.prog 64 #[str B, .func (.func 68) #[] #[]] W' fun e w' => e = .returned (str W) ∧ w' = W'))
    (zB : (bs B).size = lb)
    (zW : (bs W).size = n)
    (hn : n ≤ lb)
    (hxR : (bs B).extract n lb = bs R)
    (heW : (bs W).toList.isEmpty = false)
    (hvar : n = 1 ∨ (1 < n ∧ ∃ h : 0 < (bs W).size, (((bs W)[0].toNat : Int) == 48) = false))
    (heR : (bs R).toList.isEmpty = false)
    (HC : Hid (∀ W', Calls Try.prog 94 #[str R, .string ⟨#[46]⟩] W' fun e w' => e = .returned (.tuple #[str M, .bool true]) ∧ w' = W'))
    (HRM : Hid (∀ W', Calls Try.prog 64 #[str M, .func (.func 68) #[] #[]] W' fun e w' => e = .returned (str D) ∧ w' = W'))
    (heD : (bs D).toList.isEmpty = false)
    (zD : (bs D).size = d)
    (zM : (bs M).size = lm)
    (hd : d ≤ lm)
    (hxr : (bs M).extract d lm = bs r)
    (her : (bs r).toList.isEmpty = false)
    (h101 : ∃ h : 0 < (bs r).size, (bits .or .u8 ((bs r)[0].toNat : Int) 32 == 101) = true)
    (zr : (bs r).size = lr)
    (hr1 : 1 ≤ lr)
    (hxT : (bs r).extract 1 lr = bs T)
    (heT : (bs T).toList.isEmpty = false)
    (zT : (bs T).size = lt)
    (ht1 : 1 ≤ lt)
    (h43 : ∃ h : 0 < (bs T).size, (((bs T)[0].toNat : Int) == 43) = false ∧ (((bs T)[0].toNat : Int) == 45) = false)
    (HRS : Hid (∀ W', Calls Try.prog 64 #[str T, .func (.func 68) #[] #[]] W' fun e w' => e = .returned (str K) ∧ w' = W'))
    (heK : (bs K).toList.isEmpty = false)
    (zK : (bs K).size = k)
    (hk : k ≤ lt)
    (hxq : (bs T).extract k lt = bs q)
    (heq : (bs q).toList.isEmpty = true)
    : Calls Try.prog 70 #[.string s] w fun e w' => e = .returned (.tuple #[.int .i64 0, .int .i64 5]) ∧ w' = w := by
  obtain ⟨h101x, h101y⟩ := h101
  obtain ⟨h43x, h43y, h43z⟩ := h43
  rcases hvar with hn1 | ⟨hn1, h48x, h48y⟩
  · subst hn1
    go_enter Try.func70, Try.ntmps70
    go_wp2_with (first | (go_at_call 93; with_reducible refine (HT.out _).mono ?_; rintro e w1 ⟨rfl, rfl⟩) | (go_at_call 94; with_reducible refine (HC.out _).mono ?_; rintro e w1 ⟨rfl, rfl⟩) | (go_at_call 64; with_reducible refine (HRB.out _).mono ?_; rintro e w1 ⟨rfl, rfl⟩) | (go_at_call 64; with_reducible refine (HRM.out _).mono ?_; rintro e w1 ⟨rfl, rfl⟩) | (go_at_call 64; with_reducible refine (HRS.out _).mono ?_; rintro e w1 ⟨rfl, rfl⟩) | (go_at_call 20; with_reducible refine (HNP.out _).mono ?_; rintro e w1 ⟨rfl, rfl⟩))
    all_goals (first | (go_ret2; exact ⟨rfl, rfl⟩) | (rename_i hz _; exact absurd hz (by unfold undef; simp)) | (rename_i hz; exact absurd hz (by unfold undef; simp)))
  · skip
    go_enter Try.func70, Try.ntmps70
    go_wp2_with (first | (go_at_call 93; with_reducible refine (HT.out _).mono ?_; rintro e w1 ⟨rfl, rfl⟩) | (go_at_call 94; with_reducible refine (HC.out _).mono ?_; rintro e w1 ⟨rfl, rfl⟩) | (go_at_call 64; with_reducible refine (HRB.out _).mono ?_; rintro e w1 ⟨rfl, rfl⟩) | (go_at_call 64; with_reducible refine (HRM.out _).mono ?_; rintro e w1 ⟨rfl, rfl⟩) | (go_at_call 64; with_reducible refine (HRS.out _).mono ?_; rintro e w1 ⟨rfl, rfl⟩) | (go_at_call 20; with_reducible refine (HNP.out _).mono ?_; rintro e w1 ⟨rfl, rfl⟩))
    all_goals (first | (go_ret2; exact ⟨rfl, rfl⟩) | (rename_i hz _; exact absurd hz (by unfold undef; simp)) | (rename_i hz; exact absurd hz (by unfold undef; simp)))
set_option maxRecDepth 100000 in
set_option maxHeartbeats 2000000 in
theorem nl_wN (s : ByteArray) (w : World) {B W R M : List UInt8} {n lb : Nat}
    (HT : Hid (∀ W', Calls Try.prog 93 #[.string s, .string ⟨#[45]⟩] W' fun e w' => e = .returned (str B) ∧ w' = W'))
    (HRB : Hid (∀ W', Calls Try.prog 64 #[str B, .func (.func 68) #[] #[]] W' fun e w' => e = .returned (str W) ∧ w' = W'))
    (zB : (bs B).size = lb)
    (zW : (bs W).size = n)
    (hn : n ≤ lb)
    (hxR : (bs B).extract n lb = bs R)
    (heW : (bs W).toList.isEmpty = false)
    (hvar : n = 1 ∨ (1 < n ∧ ∃ h : 0 < (bs W).size, (((bs W)[0].toNat : Int) == 48) = false))
    (HC : Hid (∀ W', Calls Try.prog 94 #[str R, .string ⟨#[46]⟩] W' fun e w' => e = .returned (.tuple #[str M, .bool false]) ∧ w' = W'))
    (heR : (bs R).toList.isEmpty = false)
    (h101 : ∃ h : 0 < (bs R).size, (bits .or .u8 ((bs R)[0].toNat : Int) 32 == 101) = false)
    : Calls Try.prog 70 #[.string s] w fun e w' => e = .returned (.tuple #[.int .i64 0, .int .i64 2]) ∧ w' = w := by
  obtain ⟨h101x, h101y⟩ := h101
  rcases hvar with hn1 | ⟨hn1, h48x, h48y⟩
  · subst hn1
    go_enter Try.func70, Try.ntmps70
    go_wp2_with (first | (go_at_call 93; with_reducible refine (HT.out _).mono ?_; rintro e w1 ⟨rfl, rfl⟩) | (go_at_call 94; with_reducible refine (HC.out _).mono ?_; rintro e w1 ⟨rfl, rfl⟩) | (go_at_call 64; with_reducible refine (HRB.out _).mono ?_; rintro e w1 ⟨rfl, rfl⟩) | (go_at_call 64; with_reducible refine (HRM.out _).mono ?_; rintro e w1 ⟨rfl, rfl⟩) | (go_at_call 64; with_reducible refine (HRS.out _).mono ?_; rintro e w1 ⟨rfl, rfl⟩) | (go_at_call 20; with_reducible refine (HNP.out _).mono ?_; rintro e w1 ⟨rfl, rfl⟩))
    all_goals (first | (go_ret2; exact ⟨rfl, rfl⟩) | (rename_i hz _; exact absurd hz (by unfold undef; simp)) | (rename_i hz; exact absurd hz (by unfold undef; simp)))
  · skip
    go_enter Try.func70, Try.ntmps70
    go_wp2_with (first | (go_at_call 93; with_reducible refine (HT.out _).mono ?_; rintro e w1 ⟨rfl, rfl⟩) | (go_at_call 94; with_reducible refine (HC.out _).mono ?_; rintro e w1 ⟨rfl, rfl⟩) | (go_at_call 64; with_reducible refine (HRB.out _).mono ?_; rintro e w1 ⟨rfl, rfl⟩) | (go_at_call 64; with_reducible refine (HRM.out _).mono ?_; rintro e w1 ⟨rfl, rfl⟩) | (go_at_call 64; with_reducible refine (HRS.out _).mono ?_; rintro e w1 ⟨rfl, rfl⟩) | (go_at_call 20; with_reducible refine (HNP.out _).mono ?_; rintro e w1 ⟨rfl, rfl⟩))
    all_goals (first | (go_ret2; exact ⟨rfl, rfl⟩) | (rename_i hz _; exact absurd hz (by unfold undef; simp)) | (rename_i hz; exact absurd hz (by unfold undef; simp)))
set_option maxRecDepth 100000 in
set_option maxHeartbeats 2000000 in
theorem nl_w0K (s : ByteArray) (w : World) {B W R M T K : List UInt8} {n lb lr lt : Nat}
    (HT : Hid (∀ W', Calls Try.prog 93 #[.string s, .string ⟨#[45]⟩] W' fun e w' => e = .returned (str B) ∧ w' = W'))
    (HRB : Hid (∀ W', Calls Try.prog 64 #[str B, .func (.func 68) #[] #[]] W' fun e w' => e = .returned (str W) ∧ w' = W'))
    (zB : (bs B).size = lb)
    (zW : (bs W).size = n)
    (hn : n ≤ lb)
    (hxR : (bs B).extract n lb = bs R)
    (heW : (bs W).toList.isEmpty = false)
    (hvar : n = 1 ∨ (1 < n ∧ ∃ h : 0 < (bs W).size, (((bs W)[0].toNat : Int) == 48) = false))
    (HC : Hid (∀ W', Calls Try.prog 94 #[str R, .string ⟨#[46]⟩] W' fun e w' => e = .returned (.tuple #[str M, .bool false]) ∧ w' = W'))
    (heR : (bs R).toList.isEmpty = false)
    (h101 : ∃ h : 0 < (bs R).size, (bits .or .u8 ((bs R)[0].toNat : Int) 32 == 101) = true)
    (zr : (bs R).size = lr)
    (hr1 : 1 ≤ lr)
    (hxT : (bs R).extract 1 lr = bs T)
    (heT : (bs T).toList.isEmpty = true)
    (HRS : Hid (∀ W', Calls Try.prog 64 #[str T, .func (.func 68) #[] #[]] W' fun e w' => e = .returned (str K) ∧ w' = W'))
    (zT : (bs T).size = lt)
    (heK : (bs K).toList.isEmpty = true)
    : Calls Try.prog 70 #[.string s] w fun e w' => e = .returned (.tuple #[.int .i64 0, .int .i64 2]) ∧ w' = w := by
  obtain ⟨h101x, h101y⟩ := h101
  rcases hvar with hn1 | ⟨hn1, h48x, h48y⟩
  · subst hn1
    go_enter Try.func70, Try.ntmps70
    go_wp2_with (first | (go_at_call 93; with_reducible refine (HT.out _).mono ?_; rintro e w1 ⟨rfl, rfl⟩) | (go_at_call 94; with_reducible refine (HC.out _).mono ?_; rintro e w1 ⟨rfl, rfl⟩) | (go_at_call 64; with_reducible refine (HRB.out _).mono ?_; rintro e w1 ⟨rfl, rfl⟩) | (go_at_call 64; with_reducible refine (HRM.out _).mono ?_; rintro e w1 ⟨rfl, rfl⟩) | (go_at_call 64; with_reducible refine (HRS.out _).mono ?_; rintro e w1 ⟨rfl, rfl⟩) | (go_at_call 20; with_reducible refine (HNP.out _).mono ?_; rintro e w1 ⟨rfl, rfl⟩))
    all_goals (first | (go_ret2; exact ⟨rfl, rfl⟩) | (rename_i hz _; exact absurd hz (by unfold undef; simp)) | (rename_i hz; exact absurd hz (by unfold undef; simp)))
  · skip
    go_enter Try.func70, Try.ntmps70
    go_wp2_with (first | (go_at_call 93; with_reducible refine (HT.out _).mono ?_; rintro e w1 ⟨rfl, rfl⟩) | (go_at_call 94; with_reducible refine (HC.out _).mono ?_; rintro e w1 ⟨rfl, rfl⟩) | (go_at_call 64; with_reducible refine (HRB.out _).mono ?_; rintro e w1 ⟨rfl, rfl⟩) | (go_at_call 64; with_reducible refine (HRM.out _).mono ?_; rintro e w1 ⟨rfl, rfl⟩) | (go_at_call 64; with_reducible refine (HRS.out _).mono ?_; rintro e w1 ⟨rfl, rfl⟩) | (go_at_call 20; with_reducible refine (HNP.out _).mono ?_; rintro e w1 ⟨rfl, rfl⟩))
    all_goals (first | (go_ret2; exact ⟨rfl, rfl⟩) | (rename_i hz _; exact absurd hz (by unfold undef; simp)) | (rename_i hz; exact absurd hz (by unfold undef; simp)))
set_option maxRecDepth 100000 in
set_option maxHeartbeats 2000000 in
theorem nl_w0X (s : ByteArray) (w : World) {B W R M T K q : List UInt8} {n lb lr lt k : Nat}
    (HT : Hid (∀ W', Calls Try.prog 93 #[.string s, .string ⟨#[45]⟩] W' fun e w' => e = .returned (str B) ∧ w' = W'))
    (HRB : Hid (∀ W', Calls Try.prog 64 #[str B, .func (.func 68) #[] #[]] W' fun e w' => e = .returned (str W) ∧ w' = W'))
    (zB : (bs B).size = lb)
    (zW : (bs W).size = n)
    (hn : n ≤ lb)
    (hxR : (bs B).extract n lb = bs R)
    (heW : (bs W).toList.isEmpty = false)
    (hvar : n = 1 ∨ (1 < n ∧ ∃ h : 0 < (bs W).size, (((bs W)[0].toNat : Int) == 48) = false))
    (HC : Hid (∀ W', Calls Try.prog 94 #[str R, .string ⟨#[46]⟩] W' fun e w' => e = .returned (.tuple #[str M, .bool false]) ∧ w' = W'))
    (heR : (bs R).toList.isEmpty = false)
    (h101 : ∃ h : 0 < (bs R).size, (bits .or .u8 ((bs R)[0].toNat : Int) 32 == 101) = true)
    (zr : (bs R).size = lr)
    (hr1 : 1 ≤ lr)
    (hxT : (bs R).extract 1 lr = bs T)
    (heT : (bs T).toList.isEmpty = true)
    (HRS : Hid (∀ W', Calls Try.prog 64 #[str T, .func (.func 68) #[] #[]] W' fun e w' => e = .returned (str K) ∧ w' = W'))
    (zT : (bs T).size = lt)
    (heK : (bs K).toList.isEmpty = false)
    (zK : (bs K).size = k)
    (hk : k ≤ lt)
    (hxq : (bs T).extract k lt = bs q)
    (heq : (bs q).toList.isEmpty = false)
    : Calls Try.prog 70 #[.string s] w fun e w' => e = .returned (.tuple #[.int .i64 0, .int .i64 2]) ∧ w' = w := by
  obtain ⟨h101x, h101y⟩ := h101
  rcases hvar with hn1 | ⟨hn1, h48x, h48y⟩
  · subst hn1
    go_enter Try.func70, Try.ntmps70
    go_wp2_with (first | (go_at_call 93; with_reducible refine (HT.out _).mono ?_; rintro e w1 ⟨rfl, rfl⟩) | (go_at_call 94; with_reducible refine (HC.out _).mono ?_; rintro e w1 ⟨rfl, rfl⟩) | (go_at_call 64; with_reducible refine (HRB.out _).mono ?_; rintro e w1 ⟨rfl, rfl⟩) | (go_at_call 64; with_reducible refine (HRM.out _).mono ?_; rintro e w1 ⟨rfl, rfl⟩) | (go_at_call 64; with_reducible refine (HRS.out _).mono ?_; rintro e w1 ⟨rfl, rfl⟩) | (go_at_call 20; with_reducible refine (HNP.out _).mono ?_; rintro e w1 ⟨rfl, rfl⟩))
    all_goals (first | (go_ret2; exact ⟨rfl, rfl⟩) | (rename_i hz _; exact absurd hz (by unfold undef; simp)) | (rename_i hz; exact absurd hz (by unfold undef; simp)))
  · skip
    go_enter Try.func70, Try.ntmps70
    go_wp2_with (first | (go_at_call 93; with_reducible refine (HT.out _).mono ?_; rintro e w1 ⟨rfl, rfl⟩) | (go_at_call 94; with_reducible refine (HC.out _).mono ?_; rintro e w1 ⟨rfl, rfl⟩) | (go_at_call 64; with_reducible refine (HRB.out _).mono ?_; rintro e w1 ⟨rfl, rfl⟩) | (go_at_call 64; with_reducible refine (HRM.out _).mono ?_; rintro e w1 ⟨rfl, rfl⟩) | (go_at_call 64; with_reducible refine (HRS.out _).mono ?_; rintro e w1 ⟨rfl, rfl⟩) | (go_at_call 20; with_reducible refine (HNP.out _).mono ?_; rintro e w1 ⟨rfl, rfl⟩))
    all_goals (first | (go_ret2; exact ⟨rfl, rfl⟩) | (rename_i hz _; exact absurd hz (by unfold undef; simp)) | (rename_i hz; exact absurd hz (by unfold undef; simp)))
set_option maxRecDepth 100000 in
set_option maxHeartbeats 2000000 in
theorem nl_w0P (s : ByteArray) (w : World) {B W R M T K q : List UInt8} {n lb lr lt k : Nat}
    (HT : Hid (∀ W', Calls Try.prog 93 #[.string s, .string ⟨#[45]⟩] W' fun e w' => e = .returned (str B) ∧ w' = W'))
    (HRB : Hid (∀ W', Calls Try.prog 64 #[str B, .func (.func 68) #[] #[]] W' fun e w' => e = .returned (str W) ∧ w' = W'))
    (zB : (bs B).size = lb)
    (zW : (bs W).size = n)
    (hn : n ≤ lb)
    (hxR : (bs B).extract n lb = bs R)
    (heW : (bs W).toList.isEmpty = false)
    (hvar : n = 1 ∨ (1 < n ∧ ∃ h : 0 < (bs W).size, (((bs W)[0].toNat : Int) == 48) = false))
    (HC : Hid (∀ W', Calls Try.prog 94 #[str R, .string ⟨#[46]⟩] W' fun e w' => e = .returned (.tuple #[str M, .bool false]) ∧ w' = W'))
    (heR : (bs R).toList.isEmpty = false)
    (h101 : ∃ h : 0 < (bs R).size, (bits .or .u8 ((bs R)[0].toNat : Int) 32 == 101) = true)
    (zr : (bs R).size = lr)
    (hr1 : 1 ≤ lr)
    (hxT : (bs R).extract 1 lr = bs T)
    (heT : (bs T).toList.isEmpty = true)
    (HRS : Hid (∀ W', Calls Try.prog 64 #[str T, .func (.func 68) #[] #[]] W' fun e w' => e = .returned (str K) ∧ w' = W'))
    (zT : (bs T).size = lt)
    (heK : (bs K).toList.isEmpty = false)
    (zK : (bs K).size = k)
    (hk : k ≤ lt)
    (hxq : (bs T).extract k lt = bs q)
    (heq : (bs q).toList.isEmpty = true)
    : Calls Try.prog 70 #[.string s] w fun e w' => e = .returned (.tuple #[.int .i64 0, .int .i64 5]) ∧ w' = w := by
  obtain ⟨h101x, h101y⟩ := h101
  rcases hvar with hn1 | ⟨hn1, h48x, h48y⟩
  · subst hn1
    go_enter Try.func70, Try.ntmps70
    go_wp2_with (first | (go_at_call 93; with_reducible refine (HT.out _).mono ?_; rintro e w1 ⟨rfl, rfl⟩) | (go_at_call 94; with_reducible refine (HC.out _).mono ?_; rintro e w1 ⟨rfl, rfl⟩) | (go_at_call 64; with_reducible refine (HRB.out _).mono ?_; rintro e w1 ⟨rfl, rfl⟩) | (go_at_call 64; with_reducible refine (HRM.out _).mono ?_; rintro e w1 ⟨rfl, rfl⟩) | (go_at_call 64; with_reducible refine (HRS.out _).mono ?_; rintro e w1 ⟨rfl, rfl⟩) | (go_at_call 20; with_reducible refine (HNP.out _).mono ?_; rintro e w1 ⟨rfl, rfl⟩))
    all_goals (first | (go_ret2; exact ⟨rfl, rfl⟩) | (rename_i hz _; exact absurd hz (by unfold undef; simp)) | (rename_i hz; exact absurd hz (by unfold undef; simp)))
  · skip
    go_enter Try.func70, Try.ntmps70
    go_wp2_with (first | (go_at_call 93; with_reducible refine (HT.out _).mono ?_; rintro e w1 ⟨rfl, rfl⟩) | (go_at_call 94; with_reducible refine (HC.out _).mono ?_; rintro e w1 ⟨rfl, rfl⟩) | (go_at_call 64; with_reducible refine (HRB.out _).mono ?_; rintro e w1 ⟨rfl, rfl⟩) | (go_at_call 64; with_reducible refine (HRM.out _).mono ?_; rintro e w1 ⟨rfl, rfl⟩) | (go_at_call 64; with_reducible refine (HRS.out _).mono ?_; rintro e w1 ⟨rfl, rfl⟩) | (go_at_call 20; with_reducible refine (HNP.out _).mono ?_; rintro e w1 ⟨rfl, rfl⟩))
    all_goals (first | (go_ret2; exact ⟨rfl, rfl⟩) | (rename_i hz _; exact absurd hz (by unfold undef; simp)) | (rename_i hz; exact absurd hz (by unfold undef; simp)))
set_option maxRecDepth 100000 in
set_option maxHeartbeats 2000000 in
theorem nl_wpK (s : ByteArray) (w : World) {B W R M T S K : List UInt8} {n lb lr lt ls : Nat}
    (HT : Hid (∀ W', Calls Try.prog 93 #[.string s, .string ⟨#[45]⟩] W' fun e w' => e = .returned (str B) ∧ w' = W'))
    (HRB : Hid (∀ W', Calls Try.prog 64 #[str B, .func (.func 68) #[] #[]] W' fun e w' => e = .returned (str W) ∧ w' = W'))
    (zB : (bs B).size = lb)
    (zW : (bs W).size = n)
    (hn : n ≤ lb)
    (hxR : (bs B).extract n lb = bs R)
    (heW : (bs W).toList.isEmpty = false)
    (hvar : n = 1 ∨ (1 < n ∧ ∃ h : 0 < (bs W).size, (((bs W)[0].toNat : Int) == 48) = false))
    (HC : Hid (∀ W', Calls Try.prog 94 #[str R, .string ⟨#[46]⟩] W' fun e w' => e = .returned (.tuple #[str M, .bool false]) ∧ w' = W'))
    (heR : (bs R).toList.isEmpty = false)
    (h101 : ∃ h : 0 < (bs R).size, (bits .or .u8 ((bs R)[0].toNat : Int) 32 == 101) = true)
    (zr : (bs R).size = lr)
    (hr1 : 1 ≤ lr)
    (hxT : (bs R).extract 1 lr = bs T)
    (heT : (bs T).toList.isEmpty = false)
    (zT : (bs T).size = lt)
    (ht1 : 1 ≤ lt)
    (h43 : ∃ h : 0 < (bs T).size, (((bs T)[0].toNat : Int) == 43) = true)
    (hxS : (bs T).extract 1 lt = bs S)
    (HRS : Hid (∀ W', Calls Try.prog 64 #[str S, .func (.func 68) #[] #[]] W' fun e w' => e = .returned (str K) ∧ w' = W'))
    (zS : (bs S).size = ls)
    (heK : (bs K).toList.isEmpty = true)
    : Calls Try.prog 70 #[.string s] w fun e w' => e = .returned (.tuple #[.int .i64 0, .int .i64 2]) ∧ w' = w := by
  obtain ⟨h101x, h101y⟩ := h101
  obtain ⟨h43x, h43y⟩ := h43
  rcases hvar with hn1 | ⟨hn1, h48x, h48y⟩
  · subst hn1
    go_enter Try.func70, Try.ntmps70
    go_wp2_with (first | (go_at_call 93; with_reducible refine (HT.out _).mono ?_; rintro e w1 ⟨rfl, rfl⟩) | (go_at_call 94; with_reducible refine (HC.out _).mono ?_; rintro e w1 ⟨rfl, rfl⟩) | (go_at_call 64; with_reducible refine (HRB.out _).mono ?_; rintro e w1 ⟨rfl, rfl⟩) | (go_at_call 64; with_reducible refine (HRM.out _).mono ?_; rintro e w1 ⟨rfl, rfl⟩) | (go_at_call 64; with_reducible refine (HRS.out _).mono ?_; rintro e w1 ⟨rfl, rfl⟩) | (go_at_call 20; with_reducible refine (HNP.out _).mono ?_; rintro e w1 ⟨rfl, rfl⟩))
    all_goals (first | (go_ret2; exact ⟨rfl, rfl⟩) | (rename_i hz _; exact absurd hz (by unfold undef; simp)) | (rename_i hz; exact absurd hz (by unfold undef; simp)))
  · skip
    go_enter Try.func70, Try.ntmps70
    go_wp2_with (first | (go_at_call 93; with_reducible refine (HT.out _).mono ?_; rintro e w1 ⟨rfl, rfl⟩) | (go_at_call 94; with_reducible refine (HC.out _).mono ?_; rintro e w1 ⟨rfl, rfl⟩) | (go_at_call 64; with_reducible refine (HRB.out _).mono ?_; rintro e w1 ⟨rfl, rfl⟩) | (go_at_call 64; with_reducible refine (HRM.out _).mono ?_; rintro e w1 ⟨rfl, rfl⟩) | (go_at_call 64; with_reducible refine (HRS.out _).mono ?_; rintro e w1 ⟨rfl, rfl⟩) | (go_at_call 20; with_reducible refine (HNP.out _).mono ?_; rintro e w1 ⟨rfl, rfl⟩))
    all_goals (first | (go_ret2; exact ⟨rfl, rfl⟩) | (rename_i hz _; exact absurd hz (by unfold undef; simp)) | (rename_i hz; exact absurd hz (by unfold undef; simp)))
set_option maxRecDepth 100000 in
set_option maxHeartbeats 2000000 in
theorem nl_wpX (s : ByteArray) (w : World) {B W R M T S K q : List UInt8} {n lb lr lt ls k : Nat}
    (HT : Hid (∀ W', Calls Try.prog 93 #[.string s, .string ⟨#[45]⟩] W' fun e w' => e = .returned (str B) ∧ w' = W'))
    (HRB : Hid (∀ W', Calls Try.prog 64 #[str B, .func (.func 68) #[] #[]] W' fun e w' => e = .returned (str W) ∧ w' = W'))
    (zB : (bs B).size = lb)
    (zW : (bs W).size = n)
    (hn : n ≤ lb)
    (hxR : (bs B).extract n lb = bs R)
    (heW : (bs W).toList.isEmpty = false)
    (hvar : n = 1 ∨ (1 < n ∧ ∃ h : 0 < (bs W).size, (((bs W)[0].toNat : Int) == 48) = false))
    (HC : Hid (∀ W', Calls Try.prog 94 #[str R, .string ⟨#[46]⟩] W' fun e w' => e = .returned (.tuple #[str M, .bool false]) ∧ w' = W'))
    (heR : (bs R).toList.isEmpty = false)
    (h101 : ∃ h : 0 < (bs R).size, (bits .or .u8 ((bs R)[0].toNat : Int) 32 == 101) = true)
    (zr : (bs R).size = lr)
    (hr1 : 1 ≤ lr)
    (hxT : (bs R).extract 1 lr = bs T)
    (heT : (bs T).toList.isEmpty = false)
    (zT : (bs T).size = lt)
    (ht1 : 1 ≤ lt)
    (h43 : ∃ h : 0 < (bs T).size, (((bs T)[0].toNat : Int) == 43) = true)
    (hxS : (bs T).extract 1 lt = bs S)
    (HRS : Hid (∀ W', Calls Try.prog 64 #[str S, .func (.func 68) #[] #[]] W' fun e w' => e = .returned (str K) ∧ w' = W'))
    (zS : (bs S).size = ls)
    (heK : (bs K).toList.isEmpty = false)
    (zK : (bs K).size = k)
    (hk : k ≤ ls)
    (hxq : (bs S).extract k ls = bs q)
    (heq : (bs q).toList.isEmpty = false)
    : Calls Try.prog 70 #[.string s] w fun e w' => e = .returned (.tuple #[.int .i64 0, .int .i64 2]) ∧ w' = w := by
  obtain ⟨h101x, h101y⟩ := h101
  obtain ⟨h43x, h43y⟩ := h43
  rcases hvar with hn1 | ⟨hn1, h48x, h48y⟩
  · subst hn1
    go_enter Try.func70, Try.ntmps70
    go_wp2_with (first | (go_at_call 93; with_reducible refine (HT.out _).mono ?_; rintro e w1 ⟨rfl, rfl⟩) | (go_at_call 94; with_reducible refine (HC.out _).mono ?_; rintro e w1 ⟨rfl, rfl⟩) | (go_at_call 64; with_reducible refine (HRB.out _).mono ?_; rintro e w1 ⟨rfl, rfl⟩) | (go_at_call 64; with_reducible refine (HRM.out _).mono ?_; rintro e w1 ⟨rfl, rfl⟩) | (go_at_call 64; with_reducible refine (HRS.out _).mono ?_; rintro e w1 ⟨rfl, rfl⟩) | (go_at_call 20; with_reducible refine (HNP.out _).mono ?_; rintro e w1 ⟨rfl, rfl⟩))
    all_goals (first | (go_ret2; exact ⟨rfl, rfl⟩) | (rename_i hz _; exact absurd hz (by unfold undef; simp)) | (rename_i hz; exact absurd hz (by unfold undef; simp)))
  · skip
    go_enter Try.func70, Try.ntmps70
    go_wp2_with (first | (go_at_call 93; with_reducible refine (HT.out _).mono ?_; rintro e w1 ⟨rfl, rfl⟩) | (go_at_call 94; with_reducible refine (HC.out _).mono ?_; rintro e w1 ⟨rfl, rfl⟩) | (go_at_call 64; with_reducible refine (HRB.out _).mono ?_; rintro e w1 ⟨rfl, rfl⟩) | (go_at_call 64; with_reducible refine (HRM.out _).mono ?_; rintro e w1 ⟨rfl, rfl⟩) | (go_at_call 64; with_reducible refine (HRS.out _).mono ?_; rintro e w1 ⟨rfl, rfl⟩) | (go_at_call 20; with_reducible refine (HNP.out _).mono ?_; rintro e w1 ⟨rfl, rfl⟩))
    all_goals (first | (go_ret2; exact ⟨rfl, rfl⟩) | (rename_i hz _; exact absurd hz (by unfold undef; simp)) | (rename_i hz; exact absurd hz (by unfold undef; simp)))
set_option maxRecDepth 100000 in
set_option maxHeartbeats 2000000 in
theorem nl_wpP (s : ByteArray) (w : World) {B W R M T S K q : List UInt8} {n lb lr lt ls k : Nat}
    (HT : Hid (∀ W', Calls Try.prog 93 #[.string s, .string ⟨#[45]⟩] W' fun e w' => e = .returned (str B) ∧ w' = W'))
    (HRB : Hid (∀ W', Calls Try.prog 64 #[str B, .func (.func 68) #[] #[]] W' fun e w' => e = .returned (str W) ∧ w' = W'))
    (zB : (bs B).size = lb)
    (zW : (bs W).size = n)
    (hn : n ≤ lb)
    (hxR : (bs B).extract n lb = bs R)
    (heW : (bs W).toList.isEmpty = false)
    (hvar : n = 1 ∨ (1 < n ∧ ∃ h : 0 < (bs W).size, (((bs W)[0].toNat : Int) == 48) = false))
    (HC : Hid (∀ W', Calls Try.prog 94 #[str R, .string ⟨#[46]⟩] W' fun e w' => e = .returned (.tuple #[str M, .bool false]) ∧ w' = W'))
    (heR : (bs R).toList.isEmpty = false)
    (h101 : ∃ h : 0 < (bs R).size, (bits .or .u8 ((bs R)[0].toNat : Int) 32 == 101) = true)
    (zr : (bs R).size = lr)
    (hr1 : 1 ≤ lr)
    (hxT : (bs R).extract 1 lr = bs T)
    (heT : (bs T).toList.isEmpty = false)
    (zT : (bs T).size = lt)
    (ht1 : 1 ≤ lt)
    (h43 : ∃ h : 0 < (bs T).size, (((bs T)[0].toNat : Int) == 43) = true)
    (hxS : (bs T).extract 1 lt = bs S)
    (HRS : Hid (∀ W', Calls Try.prog 64 #[str S, .func (.func 68) #[] #[]] W' fun e w' => e = .returned (str K) ∧ w' = W'))
    (zS : (bs S).size = ls)
    (heK : (bs K).toList.isEmpty = false)
    (zK : (bs K).size = k)
    (hk : k ≤ ls)
    (hxq : (bs S).extract k ls = bs q)
    (heq : (bs q).toList.isEmpty = true)
    : Calls Try.prog 70 #[.string s] w fun e w' => e = .returned (.tuple #[.int .i64 0, .int .i64 5]) ∧ w' = w := by
  obtain ⟨h101x, h101y⟩ := h101
  obtain ⟨h43x, h43y⟩ := h43
  rcases hvar with hn1 | ⟨hn1, h48x, h48y⟩
  · subst hn1
    go_enter Try.func70, Try.ntmps70
    go_wp2_with (first | (go_at_call 93; with_reducible refine (HT.out _).mono ?_; rintro e w1 ⟨rfl, rfl⟩) | (go_at_call 94; with_reducible refine (HC.out _).mono ?_; rintro e w1 ⟨rfl, rfl⟩) | (go_at_call 64; with_reducible refine (HRB.out _).mono ?_; rintro e w1 ⟨rfl, rfl⟩) | (go_at_call 64; with_reducible refine (HRM.out _).mono ?_; rintro e w1 ⟨rfl, rfl⟩) | (go_at_call 64; with_reducible refine (HRS.out _).mono ?_; rintro e w1 ⟨rfl, rfl⟩) | (go_at_call 20; with_reducible refine (HNP.out _).mono ?_; rintro e w1 ⟨rfl, rfl⟩))
    all_goals (first | (go_ret2; exact ⟨rfl, rfl⟩) | (rename_i hz _; exact absurd hz (by unfold undef; simp)) | (rename_i hz; exact absurd hz (by unfold undef; simp)))
  · skip
    go_enter Try.func70, Try.ntmps70
    go_wp2_with (first | (go_at_call 93; with_reducible refine (HT.out _).mono ?_; rintro e w1 ⟨rfl, rfl⟩) | (go_at_call 94; with_reducible refine (HC.out _).mono ?_; rintro e w1 ⟨rfl, rfl⟩) | (go_at_call 64; with_reducible refine (HRB.out _).mono ?_; rintro e w1 ⟨rfl, rfl⟩) | (go_at_call 64; with_reducible refine (HRM.out _).mono ?_; rintro e w1 ⟨rfl, rfl⟩) | (go_at_call 64; with_reducible refine (HRS.out _).mono ?_; rintro e w1 ⟨rfl, rfl⟩) | (go_at_call 20; with_reducible refine (HNP.out _).mono ?_; rintro e w1 ⟨rfl, rfl⟩))
    all_goals (first | (go_ret2; exact ⟨rfl, rfl⟩) | (rename_i hz _; exact absurd hz (by unfold undef; simp)) | (rename_i hz; exact absurd hz (by unfold undef; simp)))
set_option maxRecDepth 100000 in
set_option maxHeartbeats 2000000 in
theorem nl_wmK (s : ByteArray) (w : World) {B W R M T S K : List UInt8} {n lb lr lt ls : Nat}
    (HT : Hid (∀ W', Calls Try.prog 93 #[.string s, .string ⟨#[45]⟩] W' fun e w' => e = .returned (str B) ∧ w' = W'))
    (HRB : Hid (∀ W', Calls Try.prog 64 #[str B, .func (.func 68) #[] #[]] W' fun e w' => e = .returned (str W) ∧ w' = W'))
    (zB : (bs B).size = lb)
    (zW : (bs W).size = n)
    (hn : n ≤ lb)
    (hxR : (bs B).extract n lb = bs R)
    (heW : (bs W).toList.isEmpty = false)
    (hvar : n = 1 ∨ (1 < n ∧ ∃ h : 0 < (bs W).size, (((bs W)[0].toNat : Int) == 48) = false))
    (HC : Hid (∀ W', Calls Try.prog 94 #[str R, .string ⟨#[46]⟩] W' fun e w' => e = .returned (.tuple #[str M, .bool false]) ∧ w' = W'))
    (heR : (bs R).toList.isEmpty = false)
    (h101 : ∃ h : 0 < (bs R).size, (bits .or .u8 ((bs R)[0].toNat : Int) 32 == 101) = true)
    (zr : (bs R).size = lr)
    (hr1 : 1 ≤ lr)
    (hxT : (bs R).extract 1 lr = bs T)
    (heT : (bs T).toList.isEmpty = false)
    (zT : (bs T).size = lt)
    (ht1 : 1 ≤ lt)
    (h43 : ∃ h : 0 < (bs T).size, (((bs T)[0].toNat : Int) == 43) = false ∧ (((bs T)[0].toNat : Int) == 45) = true)
    (hxS : (bs T).extract 1 lt = bs S)
    (HRS : Hid (∀ W', Calls Try.prog 64 #[str S, .func (.func 68) #[] #[]] W' fun e w' => e = .returned (str K) ∧ w' = W'))
    (zS : (bs S).size = ls)
    (heK : (bs K).toList.isEmpty = true)
    : Calls Try.prog 70 #[.string s] w fun e w' => e = .returned (.tuple #[.int .i64 0, .int .i64 2]) ∧ w' = w := by
  obtain ⟨h101x, h101y⟩ := h101
  obtain ⟨h43x, h43y, h43z⟩ := h43
  rcases hvar with hn1 | ⟨hn1, h48x, h48y⟩
  · subst hn1
    go_enter Try.func70, Try.ntmps70
    go_wp2_with (first | (go_at_call 93; with_reducible refine (HT.out _).mono ?_; rintro e w1 ⟨rfl, rfl⟩) | (go_at_call 94; with_reducible refine (HC.out _).mono ?_; rintro e w1 ⟨rfl, rfl⟩) | (go_at_call 64; with_reducible refine (HRB.out _).mono ?_; rintro e w1 ⟨rfl, rfl⟩) | (go_at_call 64; with_reducible refine (HRM.out _).mono ?_; rintro e w1 ⟨rfl, rfl⟩) | (go_at_call 64; with_reducible refine (HRS.out _).mono ?_; rintro e w1 ⟨rfl, rfl⟩) | (go_at_call 20; with_reducible refine (HNP.out _).mono ?_; rintro e w1 ⟨rfl, rfl⟩))
    all_goals (first | (go_ret2; exact ⟨rfl, rfl⟩) | (rename_i hz _; exact absurd hz (by unfold undef; simp)) | (rename_i hz; exact absurd hz (by unfold undef; simp)))
  · skip
    go_enter Try.func70, Try.ntmps70
    go_wp2_with (first | (go_at_call 93; with_reducible refine (HT.out _).mono ?_; rintro e w1 ⟨rfl, rfl⟩) | (go_at_call 94; with_reducible refine (HC.out _).mono ?_; rintro e w1 ⟨rfl, rfl⟩) | (go_at_call 64; with_reducible refine (HRB.out _).mono ?_; rintro e w1 ⟨rfl, rfl⟩) | (go_at_call 64; with_reducible refine (HRM.out _).mono ?_; rintro e w1 ⟨rfl, rfl⟩) | (go_at_call 64; with_reducible refine (HRS.out _).mono ?_; rintro e w1 ⟨rfl, rfl⟩) | (go_at_call 20; with_reducible refine (HNP.out _).mono ?_; rintro e w1 ⟨rfl, rfl⟩))
    all_goals (first | (go_ret2; exact ⟨rfl, rfl⟩) | (rename_i hz _; exact absurd hz (by unfold undef; simp)) | (rename_i hz; exact absurd hz (by unfold undef; simp)))
set_option maxRecDepth 100000 in
set_option maxHeartbeats 2000000 in
theorem nl_wmX (s : ByteArray) (w : World) {B W R M T S K q : List UInt8} {n lb lr lt ls k : Nat}
    (HT : Hid (∀ W', Calls Try.prog 93 #[.string s, .string ⟨#[45]⟩] W' fun e w' => e = .returned (str B) ∧ w' = W'))
    (HRB : Hid (∀ W', Calls Try.prog 64 #[str B, .func (.func 68) #[] #[]] W' fun e w' => e = .returned (str W) ∧ w' = W'))
    (zB : (bs B).size = lb)
    (zW : (bs W).size = n)
    (hn : n ≤ lb)
    (hxR : (bs B).extract n lb = bs R)
    (heW : (bs W).toList.isEmpty = false)
    (hvar : n = 1 ∨ (1 < n ∧ ∃ h : 0 < (bs W).size, (((bs W)[0].toNat : Int) == 48) = false))
    (HC : Hid (∀ W', Calls Try.prog 94 #[str R, .string ⟨#[46]⟩] W' fun e w' => e = .returned (.tuple #[str M, .bool false]) ∧ w' = W'))
    (heR : (bs R).toList.isEmpty = false)
    (h101 : ∃ h : 0 < (bs R).size, (bits .or .u8 ((bs R)[0].toNat : Int) 32 == 101) = true)
    (zr : (bs R).size = lr)
    (hr1 : 1 ≤ lr)
    (hxT : (bs R).extract 1 lr = bs T)
    (heT : (bs T).toList.isEmpty = false)
    (zT : (bs T).size = lt)
    (ht1 : 1 ≤ lt)
    (h43 : ∃ h : 0 < (bs T).size, (((bs T)[0].toNat : Int) == 43) = false ∧ (((bs T)[0].toNat : Int) == 45) = true)
    (hxS : (bs T).extract 1 lt = bs S)
    (HRS : Hid (∀ W', Calls Try.prog 64 #[str S, .func (.func 68) #[] #[]] W' fun e w' => e = .returned (str K) ∧ w' = W'))
    (zS : (bs S).size = ls)
    (heK : (bs K).toList.isEmpty = false)
    (zK : (bs K).size = k)
    (hk : k ≤ ls)
    (hxq : (bs S).extract k ls = bs q)
    (heq : (bs q).toList.isEmpty = false)
    : Calls Try.prog 70 #[.string s] w fun e w' => e = .returned (.tuple #[.int .i64 0, .int .i64 2]) ∧ w' = w := by
  obtain ⟨h101x, h101y⟩ := h101
  obtain ⟨h43x, h43y, h43z⟩ := h43
  rcases hvar with hn1 | ⟨hn1, h48x, h48y⟩
  · subst hn1
    go_enter Try.func70, Try.ntmps70
    go_wp2_with (first | (go_at_call 93; with_reducible refine (HT.out _).mono ?_; rintro e w1 ⟨rfl, rfl⟩) | (go_at_call 94; with_reducible refine (HC.out _).mono ?_; rintro e w1 ⟨rfl, rfl⟩) | (go_at_call 64; with_reducible refine (HRB.out _).mono ?_; rintro e w1 ⟨rfl, rfl⟩) | (go_at_call 64; with_reducible refine (HRM.out _).mono ?_; rintro e w1 ⟨rfl, rfl⟩) | (go_at_call 64; with_reducible refine (HRS.out _).mono ?_; rintro e w1 ⟨rfl, rfl⟩) | (go_at_call 20; with_reducible refine (HNP.out _).mono ?_; rintro e w1 ⟨rfl, rfl⟩))
    all_goals (first | (go_ret2; exact ⟨rfl, rfl⟩) | (rename_i hz _; exact absurd hz (by unfold undef; simp)) | (rename_i hz; exact absurd hz (by unfold undef; simp)))
  · skip
    go_enter Try.func70, Try.ntmps70
    go_wp2_with (first | (go_at_call 93; with_reducible refine (HT.out _).mono ?_; rintro e w1 ⟨rfl, rfl⟩) | (go_at_call 94; with_reducible refine (HC.out _).mono ?_; rintro e w1 ⟨rfl, rfl⟩) | (go_at_call 64; with_reducible refine (HRB.out _).mono ?_; rintro e w1 ⟨rfl, rfl⟩) | (go_at_call 64; with_reducible refine (HRM.out _).mono ?_; rintro e w1 ⟨rfl, rfl⟩) | (go_at_call 64; with_reducible refine (HRS.out _).mono ?_; rintro e w1 ⟨rfl, rfl⟩) | (go_at_call 20; with_reducible refine (HNP.out _).mono ?_; rintro e w1 ⟨rfl, rfl⟩))
    all_goals (first | (go_ret2; exact ⟨rfl, rfl⟩) | (rename_i hz _; exact absurd hz (by unfold undef; simp)) | (rename_i hz; exact absurd hz (by unfold undef; simp)))
set_option maxRecDepth 100000 in
set_option maxHeartbeats 2000000 in
theorem nl_wmP (s : ByteArray) (w : World) {B W R M T S K q : List UInt8} {n lb lr lt ls k : Nat}
    (HT : Hid (∀ W', Calls Try.prog 93 #[.string s, .string ⟨#[45]⟩] W' fun e w' => e = .returned (str B) ∧ w' = W'))
    (HRB : Hid (∀ W', Calls Try.prog 64 #[str B, .func (.func 68) #[] #[]] W' fun e w' => e = .returned (str W) ∧ w' = W'))
    (zB : (bs B).size = lb)
    (zW : (bs W).size = n)
    (hn : n ≤ lb)
    (hxR : (bs B).extract n lb = bs R)
    (heW : (bs W).toList.isEmpty = false)
    (hvar : n = 1 ∨ (1 < n ∧ ∃ h : 0 < (bs W).size, (((bs W)[0].toNat : Int) == 48) = false))
    (HC : Hid (∀ W', Calls Try.prog 94 #[str R, .string ⟨#[46]⟩] W' fun e w' => e = .returned (.tuple #[str M, .bool false]) ∧ w' = W'))
    (heR : (bs R).toList.isEmpty = false)
    (h101 : ∃ h : 0 < (bs R).size, (bits .or .u8 ((bs R)[0].toNat : Int) 32 == 101) = true)
    (zr : (bs R).size = lr)
    (hr1 : 1 ≤ lr)
    (hxT : (bs R).extract 1 lr = bs T)
    (heT : (bs T).toList.isEmpty = false)
    (zT : (bs T).size = lt)
    (ht1 : 1 ≤ lt)
    (h43 : ∃ h : 0 < (bs T).size, (((bs T)[0].toNat : Int) == 43) = false ∧ (((bs T)[0].toNat : Int) == 45) = true)
    (hxS : (bs T).extract 1 lt = bs S)
    (HRS : Hid (∀ W', Calls Try.prog 64 #[str S, .func (.func 68) #[] #[]] W' fun e w' => e = .returned (str K) ∧ w' = W'))
    (zS : (bs S).size = ls)
    (heK : (bs K).toList.isEmpty = false)
    (zK : (bs K).size = k)
    (hk : k ≤ ls)
    (hxq : (bs S).extract k ls = bs q)
    (heq : (bs q).toList.isEmpty = true)
    : Calls Try.prog 70 #[.string s] w fun e w' => e = .returned (.tuple #[.int .i64 0, .int .i64 5]) ∧ w' = w := by
  obtain ⟨h101x, h101y⟩ := h101
  obtain ⟨h43x, h43y, h43z⟩ := h43
  rcases hvar with hn1 | ⟨hn1, h48x, h48y⟩
  · subst hn1
    go_enter Try.func70, Try.ntmps70
    go_wp2_with (first | (go_at_call 93; with_reducible refine (HT.out _).mono ?_; rintro e w1 ⟨rfl, rfl⟩) | (go_at_call 94; with_reducible refine (HC.out _).mono ?_; rintro e w1 ⟨rfl, rfl⟩) | (go_at_call 64; with_reducible refine (HRB.out _).mono ?_; rintro e w1 ⟨rfl, rfl⟩) | (go_at_call 64; with_reducible refine (HRM.out _).mono ?_; rintro e w1 ⟨rfl, rfl⟩) | (go_at_call 64; with_reducible refine (HRS.out _).mono ?_; rintro e w1 ⟨rfl, rfl⟩) | (go_at_call 20; with_reducible refine (HNP.out _).mono ?_; rintro e w1 ⟨rfl, rfl⟩))
    all_goals (first | (go_ret2; exact ⟨rfl, rfl⟩) | (rename_i hz _; exact absurd hz (by unfold undef; simp)) | (rename_i hz; exact absurd hz (by unfold undef; simp)))
  · skip
    go_enter Try.func70, Try.ntmps70
    go_wp2_with (first | (go_at_call 93; with_reducible refine (HT.out _).mono ?_; rintro e w1 ⟨rfl, rfl⟩) | (go_at_call 94; with_reducible refine (HC.out _).mono ?_; rintro e w1 ⟨rfl, rfl⟩) | (go_at_call 64; with_reducible refine (HRB.out _).mono ?_; rintro e w1 ⟨rfl, rfl⟩) | (go_at_call 64; with_reducible refine (HRM.out _).mono ?_; rintro e w1 ⟨rfl, rfl⟩) | (go_at_call 64; with_reducible refine (HRS.out _).mono ?_; rintro e w1 ⟨rfl, rfl⟩) | (go_at_call 20; with_reducible refine (HNP.out _).mono ?_; rintro e w1 ⟨rfl, rfl⟩))
    all_goals (first | (go_ret2; exact ⟨rfl, rfl⟩) | (rename_i hz _; exact absurd hz (by unfold undef; simp)) | (rename_i hz; exact absurd hz (by unfold undef; simp)))
set_option maxRecDepth 100000 in
set_option maxHeartbeats 2000000 in
theorem nl_wnK (s : ByteArray) (w : World) {B W R M T K : List UInt8} {n lb lr lt : Nat}
    (HT : Hid (∀ W', Calls Try.prog 93 #[.string s, .string ⟨#[45]⟩] W' fun e w' => e = .returned (str B) ∧ w' = W'))
    (HRB : Hid (∀ W', Calls Try.prog 64 #[str B, .func (.func 68) #[] #[]] W' fun e w' => e = .returned (str W) ∧ w' = W'))
    (zB : (bs B).size = lb)
    (zW : (bs W).size = n)
    (hn : n ≤ lb)
    (hxR : (bs B).extract n lb = bs R)
    (heW : (bs W).toList.isEmpty = false)
    (hvar : n = 1 ∨ (1 < n ∧ ∃ h : 0 < (bs W).size, (((bs W)[0].toNat : Int) == 48) = false))
    (HC : Hid (∀ W', Calls Try.prog 94 #[str R, .string ⟨#[46]⟩] W' fun e w' => e = .returned (.tuple #[str M, .bool false]) ∧ w' = W'))
    (heR : (bs R).toList.isEmpty = false)
    (h101 : ∃ h : 0 < (bs R).size, (bits .or .u8 ((bs R)[0].toNat : Int) 32 == 101) = true)
    (zr : (bs R).size = lr)
    (hr1 : 1 ≤ lr)
    (hxT : (bs R).extract 1 lr = bs T)
    (heT : (bs T).toList.isEmpty = false)
    (zT : (bs T).size = lt)
    (ht1 : 1 ≤ lt)
    (h43 : ∃ h : 0 < (bs T).size, (((bs T)[0].toNat : Int) == 43) = false ∧ (((bs T)[0].toNat : Int) == 45) = false)
    (HRS : Hid (∀ W', Calls Try.prog 64 #[str T, .func (.func 68) #[] #[]] W' fun e w' => e = .returned (str K) ∧ w' = W'))
    (heK : (bs K).toList.isEmpty = true)
    : Calls Try.prog 70 #[.string s] w fun e w' => e = .returned (.tuple #[.int .i64 0, .int .i64 2]) ∧ w' = w := by
  obtain ⟨h101x, h101y⟩ := h101
  obtain ⟨h43x, h43y, h43z⟩ := h43
  rcases hvar with hn1 | ⟨hn1, h48x, h48y⟩
  · subst hn1
    go_enter Try.func70, Try.ntmps70
    go_wp2_with (first | (go_at_call 93; with_reducible refine (HT.out _).mono ?_; rintro e w1 ⟨rfl, rfl⟩) | (go_at_call 94; with_reducible refine (HC.out _).mono ?_; rintro e w1 ⟨rfl, rfl⟩) | (go_at_call 64; with_reducible refine (HRB.out _).mono ?_; rintro e w1 ⟨rfl, rfl⟩) | (go_at_call 64; with_reducible refine (HRM.out _).mono ?_; rintro e w1 ⟨rfl, rfl⟩) | (go_at_call 64; with_reducible refine (HRS.out _).mono ?_; rintro e w1 ⟨rfl, rfl⟩) | (go_at_call 20; with_reducible refine (HNP.out _).mono ?_; rintro e w1 ⟨rfl, rfl⟩))
    all_goals (first | (go_ret2; exact ⟨rfl, rfl⟩) | (rename_i hz _; exact absurd hz (by unfold undef; simp)) | (rename_i hz; exact absurd hz (by unfold undef; simp)))
  · skip
    go_enter Try.func70, Try.ntmps70
    go_wp2_with (first | (go_at_call 93; with_reducible refine (HT.out _).mono ?_; rintro e w1 ⟨rfl, rfl⟩) | (go_at_call 94; with_reducible refine (HC.out _).mono ?_; rintro e w1 ⟨rfl, rfl⟩) | (go_at_call 64; with_reducible refine (HRB.out _).mono ?_; rintro e w1 ⟨rfl, rfl⟩) | (go_at_call 64; with_reducible refine (HRM.out _).mono ?_; rintro e w1 ⟨rfl, rfl⟩) | (go_at_call 64; with_reducible refine (HRS.out _).mono ?_; rintro e w1 ⟨rfl, rfl⟩) | (go_at_call 20; with_reducible refine (HNP.out _).mono ?_; rintro e w1 ⟨rfl, rfl⟩))
    all_goals (first | (go_ret2; exact ⟨rfl, rfl⟩) | (rename_i hz _; exact absurd hz (by unfold undef; simp)) | (rename_i hz; exact absurd hz (by unfold undef; simp)))
set_option maxRecDepth 100000 in
set_option maxHeartbeats 2000000 in
theorem nl_wnX (s : ByteArray) (w : World) {B W R M T K q : List UInt8} {n lb lr lt k : Nat}
    (HT : Hid (∀ W', Calls Try.prog 93 #[.string s, .string ⟨#[45]⟩] W' fun e w' => e = .returned (str B) ∧ w' = W'))
    (HRB : Hid (∀ W', Calls Try.prog 64 #[str B, .func (.func 68) #[] #[]] W' fun e w' => e = .returned (str W) ∧ w' = W'))
    (zB : (bs B).size = lb)
    (zW : (bs W).size = n)
    (hn : n ≤ lb)
    (hxR : (bs B).extract n lb = bs R)
    (heW : (bs W).toList.isEmpty = false)
    (hvar : n = 1 ∨ (1 < n ∧ ∃ h : 0 < (bs W).size, (((bs W)[0].toNat : Int) == 48) = false))
    (HC : Hid (∀ W', Calls Try.prog 94 #[str R, .string ⟨#[46]⟩] W' fun e w' => e = .returned (.tuple #[str M, .bool false]) ∧ w' = W'))
    (heR : (bs R).toList.isEmpty = false)
    (h101 : ∃ h : 0 < (bs R).size, (bits .or .u8 ((bs R)[0].toNat : Int) 32 == 101) = true)
    (zr : (bs R).size = lr)
    (hr1 : 1 ≤ lr)
    (hxT : (bs R).extract 1 lr = bs T)
    (heT : (bs T).toList.isEmpty = false)
    (zT : (bs T).size = lt)
    (ht1 : 1 ≤ lt)
    (h43 : ∃ h : 0 < (bs T).size, (((bs T)[0].toNat : Int) == 43) = false ∧ (((bs T)[0].toNat : Int) == 45) = false)
    (HRS : Hid (∀ W', Calls Try.prog 64 #[str T, .func (.func 68) #[] #[]] W' fun e w' => e = .returned (str K) ∧ w' = W'))
    (heK : (bs K).toList.isEmpty = false)
    (zK : (bs K).size = k)
    (hk : k ≤ lt)
    (hxq : (bs T).extract k lt = bs q)
    (heq : (bs q).toList.isEmpty = false)
    : Calls Try.prog 70 #[.string s] w fun e w' => e = .returned (.tuple #[.int .i64 0, .int .i64 2]) ∧ w' = w := by
  obtain ⟨h101x, h101y⟩ := h101
  obtain ⟨h43x, h43y, h43z⟩ := h43
  rcases hvar with hn1 | ⟨hn1, h48x, h48y⟩
  · subst hn1
    go_enter Try.func70, Try.ntmps70
    go_wp2_with (first | (go_at_call 93; with_reducible refine (HT.out _).mono ?_; rintro e w1 ⟨rfl, rfl⟩) | (go_at_call 94; with_reducible refine (HC.out _).mono ?_; rintro e w1 ⟨rfl, rfl⟩) | (go_at_call 64; with_reducible refine (HRB.out _).mono ?_; rintro e w1 ⟨rfl, rfl⟩) | (go_at_call 64; with_reducible refine (HRM.out _).mono ?_; rintro e w1 ⟨rfl, rfl⟩) | (go_at_call 64; with_reducible refine (HRS.out _).mono ?_; rintro e w1 ⟨rfl, rfl⟩) | (go_at_call 20; with_reducible refine (HNP.out _).mono ?_; rintro e w1 ⟨rfl, rfl⟩))
    all_goals (first | (go_ret2; exact ⟨rfl, rfl⟩) | (rename_i hz _; exact absurd hz (by unfold undef; simp)) | (rename_i hz; exact absurd hz (by unfold undef; simp)))
  · skip
    go_enter Try.func70, Try.ntmps70
    go_wp2_with (first | (go_at_call 93; with_reducible refine (HT.out _).mono ?_; rintro e w1 ⟨rfl, rfl⟩) | (go_at_call 94; with_reducible refine (HC.out _).mono ?_; rintro e w1 ⟨rfl, rfl⟩) | (go_at_call 64; with_reducible refine (HRB.out _).mono ?_; rintro e w1 ⟨rfl, rfl⟩) | (go_at_call 64; with_reducible refine (HRM.out _).mono ?_; rintro e w1 ⟨rfl, rfl⟩) | (go_at_call 64; with_reducible refine (HRS.out _).mono ?_; rintro e w1 ⟨rfl, rfl⟩) | (go_at_call 20; with_reducible refine (HNP.out _).mono ?_; rintro e w1 ⟨rfl, rfl⟩))
    all_goals (first | (go_ret2; exact ⟨rfl, rfl⟩) | (rename_i hz _; exact absurd hz (by unfold undef; simp)) | (rename_i hz; exact absurd hz (by unfold undef; simp)))
set_option maxRecDepth 100000 in
set_option maxHeartbeats 2000000 in
theorem nl_wnP (s : ByteArray) (w : World) {B W R M T K q : List UInt8} {n lb lr lt k : Nat}
    (HT : Hid (∀ W', Calls Try.prog 93 #[.string s, .string ⟨#[45]⟩] W' fun e w' => e = .returned (str B) ∧ w' = W'))
    (HRB : Hid (∀ W', Calls Try.prog 64 #[str B, .func (.func 68) #[] #[]] W' fun e w' => e = .returned (str W) ∧ w' = W'))
    (zB : (bs B).size = lb)
    (zW : (bs W).size = n)
    (hn : n ≤ lb)
    (hxR : (bs B).extract n lb = bs R)
    (heW : (bs W).toList.isEmpty = false)
    (hvar : n = 1 ∨ (1 < n ∧ ∃ h : 0 < (bs W).size, (((bs W)[0].toNat : Int) == 48) = false))
    (HC : Hid (∀ W', Calls Try.prog 94 #[str R, .string ⟨#[46]⟩] W' fun e w' => e = .returned (.tuple #[str M, .bool false]) ∧ w' = W'))
    (heR : (bs R).toList.isEmpty = false)
    (h101 : ∃ h : 0 < (bs R).size, (bits .or .u8 ((bs R)[0].toNat : Int) 32 == 101) = true)
    (zr : (bs R).size = lr)
    (hr1 : 1 ≤ lr)
    (hxT : (bs R).extract 1 lr = bs T)
    (heT : (bs T).toList.isEmpty = false)
    (zT : (bs T).size = lt)
    (ht1 : 1 ≤ lt)
    (h43 : ∃ h : 0 < (bs T).size, (((bs T)[0].toNat : Int) == 43) = false ∧ (((bs T)[0].toNat : Int) == 45) = false)
    (HRS : Hid (∀ W', Calls Try.prog 64 #[str T, .func (.func 68) #[] #[]] W' fun e w' => e = .returned (str K) ∧ w' = W'))
    (heK : (bs K).toList.isEmpty = false)
    (zK : (bs K).size = k)
    (hk : k ≤ lt)
    (hxq : (bs T).extract k lt = bs q)
    (heq : (bs q).toList.isEmpty = true)
    : Calls Try.prog 70 #[.string s] w fun e w' => e = .returned (.tuple #[.int .i64 0, .int .i64 5]) ∧ w' = w := by
  obtain ⟨h101x, h101y⟩ := h101
  obtain ⟨h43x, h43y, h43z⟩ := h43
  rcases hvar with hn1 | ⟨hn1, h48x, h48y⟩
  · subst hn1
    go_enter Try.func70, Try.ntmps70
    go_wp2_with (first | (go_at_call 93; with_reducible refine (HT.out _).mono ?_; rintro e w1 ⟨rfl, rfl⟩) | (go_at_call 94; with_reducible refine (HC.out _).mono ?_; rintro e w1 ⟨rfl, rfl⟩) | (go_at_call 64; with_reducible refine (HRB.out _).mono ?_; rintro e w1 ⟨rfl, rfl⟩) | (go_at_call 64; with_reducible refine (HRM.out _).mono ?_; rintro e w1 ⟨rfl, rfl⟩) | (go_at_call 64; with_reducible refine (HRS.out _).mono ?_; rintro e w1 ⟨rfl, rfl⟩) | (go_at_call 20; with_reducible refine (HNP.out _).mono ?_; rintro e w1 ⟨rfl, rfl⟩))
    all_goals (first | (go_ret2; exact ⟨rfl, rfl⟩) | (rename_i hz _; exact absurd hz (by unfold undef; simp)) | (rename_i hz; exact absurd hz (by unfold undef; simp)))
  · skip
    go_enter Try.func70, Try.ntmps70
    go_wp2_with (first | (go_at_call 93; with_reducible refine (HT.out _).mono ?_; rintro e w1 ⟨rfl, rfl⟩) | (go_at_call 94; with_reducible refine (HC.out _).mono ?_; rintro e w1 ⟨rfl, rfl⟩) | (go_at_call 64; with_reducible refine (HRB.out _).mono ?_; rintro e w1 ⟨rfl, rfl⟩) | (go_at_call 64; with_reducible refine (HRM.out _).mono ?_; rintro e w1 ⟨rfl, rfl⟩) | (go_at_call 64; with_reducible refine (HRS.out _).mono ?_; rintro e w1 ⟨rfl, rfl⟩) | (go_at_call 20; with_reducible refine (HNP.out _).mono ?_; rintro e w1 ⟨rfl, rfl⟩))
    all_goals (first | (go_ret2; exact ⟨rfl, rfl⟩) | (rename_i hz _; exact absurd hz (by unfold undef; simp)) | (rename_i hz; exact absurd hz (by unfold undef; simp)))
set_option maxRecDepth 100000 in
set_option maxHeartbeats 2000000 in
theorem nl_z (s : ByteArray) (w : World) {B W R M : List UInt8} {n lb : Nat}
    (HT : Hid (∀ W', Calls Try.prog 93 #[.string s, .string ⟨#[45]⟩] W' fun e w' => e = .returned (str B) ∧ w' = W'))
    (HRB : Hid (∀ W', Calls Try.prog 64 #[str B, .func (.func 68) #[] #[]] W' fun e w' => e = .returned (str W) ∧ w' = W'))
    (zB : (bs B).size = lb)
    (zW : (bs W).size = n)
    (hn : n ≤ lb)
    (hxR : (bs B).extract n lb = bs R)
    (heW : (bs W).toList.isEmpty = false)
    (hvar : n = 1 ∨ (1 < n ∧ ∃ h : 0 < (bs W).size, (((bs W)[0].toNat : Int) == 48) = false))
    (HC : Hid (∀ W', Calls Try.prog 94 #[str R, .string ⟨#[46]⟩] W' fun e w' => e = .returned (.tuple #[str M, .bool false]) ∧ w' = W'))
    (heR : (bs R).toList.isEmpty = true)
    (hm0 : (s.toList == [45, 48]) = true)
    : Calls Try.prog 70 #[.string s] w fun e w' => e = .returned (.tuple #[.int .i64 0, .int .i64 0]) ∧ w' = w := by
  rcases hvar with hn1 | ⟨hn1, h48x, h48y⟩
  · subst hn1
    go_enter Try.func70, Try.ntmps70
    go_wp2_with (first | (go_at_call 93; with_reducible refine (HT.out _).mono ?_; rintro e w1 ⟨rfl, rfl⟩) | (go_at_call 94; with_reducible refine (HC.out _).mono ?_; rintro e w1 ⟨rfl, rfl⟩) | (go_at_call 64; with_reducible refine (HRB.out _).mono ?_; rintro e w1 ⟨rfl, rfl⟩) | (go_at_call 64; with_reducible refine (HRM.out _).mono ?_; rintro e w1 ⟨rfl, rfl⟩) | (go_at_call 64; with_reducible refine (HRS.out _).mono ?_; rintro e w1 ⟨rfl, rfl⟩) | (go_at_call 20; with_reducible refine (HNP.out _).mono ?_; rintro e w1 ⟨rfl, rfl⟩))
    all_goals (first | (go_ret2; exact ⟨rfl, rfl⟩) | (rename_i hz _; exact absurd hz (by unfold undef; simp)) | (rename_i hz; exact absurd hz (by unfold undef; simp)))
  · skip
    go_enter Try.func70, Try.ntmps70
    go_wp2_with (first | (go_at_call 93; with_reducible refine (HT.out _).mono ?_; rintro e w1 ⟨rfl, rfl⟩) | (go_at_call 94; with_reducible refine (HC.out _).mono ?_; rintro e w1 ⟨rfl, rfl⟩) | (go_at_call 64; with_reducible refine (HRB.out _).mono ?_; rintro e w1 ⟨rfl, rfl⟩) | (go_at_call 64; with_reducible refine (HRM.out _).mono ?_; rintro e w1 ⟨rfl, rfl⟩) | (go_at_call 64; with_reducible refine (HRS.out _).mono ?_; rintro e w1 ⟨rfl, rfl⟩) | (go_at_call 20; with_reducible refine (HNP.out _).mono ?_; rintro e w1 ⟨rfl, rfl⟩))
    all_goals (first | (go_ret2; exact ⟨rfl, rfl⟩) | (rename_i hz _; exact absurd hz (by unfold undef; simp)) | (rename_i hz; exact absurd hz (by unfold undef; simp)))
set_option maxRecDepth 100000 in
set_option maxHeartbeats 2000000 in
theorem nl_y (s : ByteArray) (w : World) {B W R M : List UInt8} {n lb : Nat} {v1 v2 : Int}
    (HT : Hid (∀ W', Calls Try.prog 93 #[.string s, .string ⟨#[45]⟩] W' fun e w' => e = .returned (str B) ∧ w' = W'))
    (HRB : Hid (∀ W', Calls Try.prog 64 #[str B, .func (.func 68) #[] #[]] W' fun e w' => e = .returned (str W) ∧ w' = W'))
    (zB : (bs B).size = lb)
    (zW : (bs W).size = n)
    (hn : n ≤ lb)
    (hxR : (bs B).extract n lb = bs R)
    (heW : (bs W).toList.isEmpty = false)
    (hvar : n = 1 ∨ (1 < n ∧ ∃ h : 0 < (bs W).size, (((bs W)[0].toNat : Int) == 48) = false))
    (HC : Hid (∀ W', Calls Try.prog 94 #[str R, .string ⟨#[46]⟩] W' fun e w' => e = .returned (.tuple #[str M, .bool false]) ∧ w' = W'))
    (heR : (bs R).toList.isEmpty = true)
    (hm0 : (s.toList == [45, 48]) = false)
    (HNP : Hid (∀ W', Calls Try.prog 20 #[.string s] W' fun e w' => e = .returned (.tuple #[.int .i64 v1, .int .i64 v2]) ∧ W' = w'))
    : Calls Try.prog 70 #[.string s] w fun e w' => e = .returned (.tuple #[.int .i64 v1, .int .i64 v2]) ∧ w' = w := by
  rcases hvar with hn1 | ⟨hn1, h48x, h48y⟩
  · subst hn1
    go_enter Try.func70, Try.ntmps70
    go_wp2_with (first | (go_at_call 93; with_reducible refine (HT.out _).mono ?_; rintro e w1 ⟨rfl, rfl⟩) | (go_at_call 94; with_reducible refine (HC.out _).mono ?_; rintro e w1 ⟨rfl, rfl⟩) | (go_at_call 64; with_reducible refine (HRB.out _).mono ?_; rintro e w1 ⟨rfl, rfl⟩) | (go_at_call 64; with_reducible refine (HRM.out _).mono ?_; rintro e w1 ⟨rfl, rfl⟩) | (go_at_call 64; with_reducible refine (HRS.out _).mono ?_; rintro e w1 ⟨rfl, rfl⟩) | (go_at_call 20; with_reducible refine (HNP.out _).mono ?_; rintro e w1 ⟨rfl, rfl⟩))
    all_goals (first | (go_ret2; exact ⟨rfl, rfl⟩) | (rename_i hz _; exact absurd hz (by unfold undef; simp)) | (rename_i hz; exact absurd hz (by unfold undef; simp)))
  · skip
    go_enter Try.func70, Try.ntmps70
    go_wp2_with (first | (go_at_call 93; with_reducible refine (HT.out _).mono ?_; rintro e w1 ⟨rfl, rfl⟩) | (go_at_call 94; with_reducible refine (HC.out _).mono ?_; rintro e w1 ⟨rfl, rfl⟩) | (go_at_call 64; with_reducible refine (HRB.out _).mono ?_; rintro e w1 ⟨rfl, rfl⟩) | (go_at_call 64; with_reducible refine (HRM.out _).mono ?_; rintro e w1 ⟨rfl, rfl⟩) | (go_at_call 64; with_reducible refine (HRS.out _).mono ?_; rintro e w1 ⟨rfl, rfl⟩) | (go_at_call 20; with_reducible refine (HNP.out _).mono ?_; rintro e w1 ⟨rfl, rfl⟩))
    all_goals (first | (go_ret2; exact ⟨rfl, rfl⟩) | (rename_i hz _; exact absurd hz (by unfold undef; simp)) | (rename_i hz; exact absurd hz (by unfold undef; simp)))

end Go.Proofs.Ythbpkmmnoeikoaa
