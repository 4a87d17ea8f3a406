/-
  token.number: what a row says. Condition: the row is no longer than 2^32 bytes.
-/
import Derived.Test.YthbpkmmnoeikoaaTokText
import Derived.Test.YthbpkmmnoeikoaaNumParse
namespace Go.Proofs.Ythbpkmmnoeikoaa
open Go Go.RowKit
set_option linter.unusedVariables false
set_option linter.unusedSimpArgs false

theorem bs_ext0 (l : List UInt8) (n : Nat) : (bs l).extract 0 n = bs (l.take n) := by
  apply ByteArray.ext
  apply Array.ext'
  rw [ByteArray.data_extract, Array.toList_extract, List.extract_eq_take_drop]
  simp [bs]
theorem bs_extn (l : List UInt8) (n m : Nat) (h : l.length ≤ m) : (bs l).extract n m = bs (l.drop n) := by
  apply ByteArray.ext
  apply Array.ext'
  rw [ByteArray.data_extract, Array.toList_extract, List.extract_eq_take_drop]
  rw [List.take_of_length_le (by show ((bs l).data.toList.drop n).length ≤ m - n; rw [List.length_drop]; show l.length - n ≤ m - n; omega)]
  rfl
theorem trim1 (l : List UInt8) (c : UInt8) : Lib.trimPrefix l [c] = if l.head? = some c then l.tail else l := by
  unfold Lib.trimPrefix Lib.hasPrefix
  cases l with
  | nil => simp
  | cons a r =>
    by_cases h : a = c
    · subst h; simp [List.isPrefixOf]
    · have h2 : (c == a) = false := by rw [beq_eq_false_iff_ne]; exact fun e => h e.symm
      simp [List.isPrefixOf, h, h2]
theorem has1 (l : List UInt8) (c : UInt8) : Lib.hasPrefix l [c] = decide (l.head? = some c) := by
  unfold Lib.hasPrefix
  cases l with
  | nil => simp
  | cons a r =>
    by_cases h : a = c
    · subst h; simp [List.isPrefixOf]
    · have h2 : (c == a) = false := by rw [beq_eq_false_iff_ne]; exact fun e => h e.symm
      simp [List.isPrefixOf, h, h2]
theorem e_or : ∀ n : Nat, n < 256 → ((n ||| 32) = 101 ↔ (n = 101 ∨ n = 69)) := by decide +kernel

/-- the row's parts, as the program meets them -/
theorem trim_any (s : ByteArray) (W : World) : Calls Try.prog 93 #[.string s, .string ⟨#[45]⟩] W fun e w' => e = .returned (str (Tk.body s.data.toList)) ∧ w' = W := by
  refine (Try.strings_TrimPrefix s ⟨#[45]⟩ W).mono ?_
  rintro e w' ⟨rfl, rfl⟩
  refine ⟨?_, rfl⟩
  show Ending.returned (.string ⟨(Lib.trimPrefix s.data.toList [45]).toArray⟩) = _
  rw [trim1]; rfl
theorem cut_any (l : List UInt8) (W : World) : Calls Try.prog 94 #[str l, .string ⟨#[46]⟩] W fun e w' => e = .returned (.tuple #[str (if l.head? = some 46 then l.tail else l), .bool (decide (l.head? = some 46))]) ∧ w' = W := by
  refine (Try.strings_CutPrefix (bs l) ⟨#[46]⟩ W).mono ?_
  rintro e w' ⟨rfl, rfl⟩
  refine ⟨?_, rfl⟩
  show Ending.returned (.tuple #[.string ⟨(Lib.trimPrefix l [46]).toArray⟩, .bool (Lib.hasPrefix l [46])]) = _
  rw [trim1, has1]; rfl
theorem digits_run (l : List UInt8) (W : World) (hl : l.length ≤ 4294967296) : Calls Try.prog 64 #[str l, .func (.func 68) #[] #[]] W fun e w' => e = .returned (str (l.take (Tk.digs l))) ∧ w' = W := by
  refine (run_digit (bs l) W (by rw [bs_size]; unfold maxLen; omega)).mono ?_
  rintro e w' ⟨rfl, rfl⟩
  refine ⟨?_, rfl⟩
  rw [bs_data, bs_ext0]; rfl

/-- a list's text: is it empty, how long is it, where does it begin -/
theorem bs_nil : (bs []).toList.isEmpty = true := by
  rw [ByteArray.toList_eq]; rfl
theorem bs_cons (c : UInt8) (l : List UInt8) : (bs (c :: l)).toList.isEmpty = false := by
  rw [ByteArray.toList_eq]; rfl

end Go.Proofs.Ythbpkmmnoeikoaa
