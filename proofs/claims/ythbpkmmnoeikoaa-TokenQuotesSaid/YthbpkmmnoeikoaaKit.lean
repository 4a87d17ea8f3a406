/-
  Small lemmas that several walks use: what a call answers, by its parts. No condition.
-/
import Derived.Test.YthbpkmmnoeikoaaProg
import Derived.WalkKit
import Derived.WalkSpells
import Derived.WalkLawsBesides
import Derived.Lib.Hide
import Derived.IntWalk
import Derived.Laws.BytesArg
namespace Go.Proofs.Ythbpkmmnoeikoaa
open Go.RowKit

theorem ret_i {k : IntKind} {a b : Int} (h : a = b) : Ending.returned (.int k a) = .returned (.int k b) := by rw [h]
theorem ret_b {a b : Bool} (h : a = b) : Ending.returned (.bool a) = .returned (.bool b) := by rw [h]
theorem ret_s {a b : ByteArray} (h : a = b) : Ending.returned (.string a) = .returned (.string b) := by rw [h]
theorem ret_ib {k : IntKind} {a b : Int} {c d : Bool} (h : a = b) (h' : c = d) : Ending.returned (.tuple #[.int k a, .bool c]) = .returned (.tuple #[.int k b, .bool d]) := by rw [h, h']
theorem ret_ii {k l : IntKind} {a b c d : Int} (h : a = b) (h' : c = d) : Ending.returned (.tuple #[.int k a, .int l c]) = .returned (.tuple #[.int k b, .int l d]) := by rw [h, h']
theorem ret_iii {k l m : IntKind} {a b c d e f : Int} (h : a = b) (h' : c = d) (h'' : e = f) : Ending.returned (.tuple #[.int k a, .int l c, .int m e]) = .returned (.tuple #[.int k b, .int l d, .int m f]) := by rw [h, h', h'']
theorem wrap64_eq (n : Int) : wrap64 n = (n + 9223372036854775808) % 18446744073709551616 - 9223372036854775808 := by unfold wrap64; first | rfl | exact IntKind.wrap_i64 n | omega

/-- a string of bytes -/
def bs (l : List UInt8) : ByteArray := ⟨l.toArray⟩
abbrev str (l : List UInt8) : Value := .string (bs l)
theorem bs_of (s : ByteArray) : s = bs s.data.toList := rfl
theorem bs_size (l : List UInt8) : (bs l).size = l.length := by simp [bs, ByteArray.size]
theorem len_data (s : ByteArray) : s.data.toList.length = s.size := by rw [Array.length_toList]; rfl
theorem bs_data (l : List UInt8) : (bs l).data.toList = l := rfl
theorem bs_append (a b : List UInt8) : bs a ++ bs b = bs (a ++ b) := by
  apply ByteArray.ext; simp [bs]

/-- a number's byte -/
def byte (c : Int) : UInt8 := UInt8.ofNat c.toNat
theorem byte_toNat {c : Int} (h0 : 0 ≤ c) (h1 : c ≤ 255) : ((byte c).toNat : Int) = c := by
  unfold byte; rw [UInt8.toNat_ofNat']; omega
theorem byte_of (c : UInt8) : byte (c.toNat : Int) = c := by
  unfold byte; simp

/-- one byte of a slice, as a string -/
theorem run_string_one (b cap : Nat) (c : Int) (W : World) (h : W.cell? ⟨b, 0, none⟩ = some (.int .u8 c)) :
    (convert 67 9 (.slice (some ⟨b, 0, none⟩) 1 cap)).run Try.prog W = .ok (str [byte c]) W := by
  have := run_convert_bytes_arg (P := Try.prog) W 67 5 Try.underlying67 Try.underlying5 b 0 1 cap [c] rfl (by
    intro i hi
    obtain rfl : i = 0 := by omega
    simpa using h) 9 Try.underlying9
  rw [this]; rfl

/-- what a world below which nothing has turned says of its cells -/
theorem bcell {W w1 : World} (hb : Below W.heap.size W w1) : (∀ b o, b < W.heap.size → w1.cell? ⟨b, o, none⟩ = W.cell? ⟨b, o, none⟩) ∧ (∀ b o, b < W.heap.size → w1.frozen? ⟨b, o, none⟩ = W.frozen? ⟨b, o, none⟩) :=
  ⟨fun b o h => hb.cell (p := ⟨b, o, none⟩) h, fun b o h => hb.frozen (p := ⟨b, o, none⟩) h⟩

end Go.Proofs.Ythbpkmmnoeikoaa
