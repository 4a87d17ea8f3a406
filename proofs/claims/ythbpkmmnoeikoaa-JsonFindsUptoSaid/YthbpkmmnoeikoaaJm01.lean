/-
  Several texts in one, each with its own head below. Conditions: as each says.
-/
import Derived.Test.YthbpkmmnoeikoaaProg
import Derived.WalkKit
import Derived.WalkSpells
import Derived.WalkLawsBesides
import Derived.Lib.Hide
import Derived.IntWalk
import Derived.Laws.BytesArg
import Derived.Laws.BitsAllLaws
import Derived.Laws.BitsAll
import Derived.Laws.Shifts
import Derived.Laws.IdiomStrings
import Derived.RangeFuncNested
import Derived.RangeFuncBound
import Derived.RangeFuncCalls
import Derived.RangeFuncLeaves
import Derived.RangeFuncBox
import Derived.Shelf.RegionOpenPlain
import Derived.Deep.LoopGhost
import Derived.Lib.Walk
import Derived.Sort.WalkB12
import Derived.Lib.SlicesMore
import Derived.Deep.AppendLies
/-
  Small lemmas that several walks use: what a call answers, by its parts. No condition.
-/
namespace Go.Proofs.Ythbpkmmnoeikoaa
open Go.RowKit

theorem ret_i {k : IntKind} {a b : Int} (h : a = b) : Ending.returned (.int k a) = .returned (.int k b) := by rw [h]
theorem ret_b {a b : Bool} (h : a = b) : Ending.returned (.bool a) = .returned (.bool b) := by rw [h]
theorem ret_s {a b : ByteArray} (h : a = b) : Ending.returned (.string a) = .returned (.string b) := by rw [h]
theorem ret_ib {k : IntKind} {a b : Int} {c d : Bool} (h : a = b) (h' : c = d) : Ending.returned (.tuple #[.int k a, .bool c]) = .returned (.tuple #[.int k b, .bool d]) := by rw [h, h']
theorem ret_ii {k l : IntKind} {a b c d : Int} (h : a = b) (h' : c = d) : Ending.returned (.tuple #[.int k a, .int l c]) = .returned (.tuple #[.int k b, .int l d]) := by rw [h, h']
theorem ret_iii {k l m : IntKind} {a b c d e f : Int} (h : a = b) (h' : c = d) (h'' : e = f) : Ending.returned (.tuple #[.int k a, .int l c, .int m e]) = .returned (.tuple #[.int k b, .int l d, .int m f]) := by rw [h, h', h'']
theorem wrap64_eq (n : Int) : wrap64 n = (n + 9223372036854775808) % 18446744073709551616 - 9223372036854775808 := by unfold wrap64; first | rfl | exact IntKind.wrap_i64 n | omega

/-- a string of bytes -/
def bs (l : List UInt8) : ByteArray := ⟨l.toArray⟩
abbrev str (l : List UInt8) : Value := .string (bs l)
theorem bs_of (s : ByteArray) : s = bs s.data.toList := rfl
theorem bs_size (l : List UInt8) : (bs l).size = l.length := by simp [bs, ByteArray.size]
theorem len_data (s : ByteArray) : s.data.toList.length = s.size := by rw [Array.length_toList]; rfl
theorem bs_data (l : List UInt8) : (bs l).data.toList = l := rfl
theorem bs_append (a b : List UInt8) : bs a ++ bs b = bs (a ++ b) := by
  apply ByteArray.ext; simp [bs]

/-- a number's byte -/
def byte (c : Int) : UInt8 := UInt8.ofNat c.toNat
theorem byte_toNat {c : Int} (h0 : 0 ≤ c) (h1 : c ≤ 255) : ((byte c).toNat : Int) = c := by
  unfold byte; rw [UInt8.toNat_ofNat']; omega
theorem byte_of (c : UInt8) : byte (c.toNat : Int) = c := by
  unfold byte; simp

/-- one byte of a slice, as a string -/
theorem run_string_one (b cap : Nat) (c : Int) (W : World) (h : W.cell? ⟨b, 0, none⟩ = some (.int .u8 c)) :
    (convert 67 9 (.slice (some ⟨b, 0, none⟩) 1 cap)).run Try.prog W = .ok (str [byte c]) W := by
  have := run_convert_bytes_arg (P := Try.prog) W 67 5 Try.underlying67 Try.underlying5 b 0 1 cap [c] rfl (by
    intro i hi
    obtain rfl : i = 0 := by omega
    simpa using h) 9 Try.underlying9
  rw [this]; rfl

/-- what a world below which nothing has turned says of its cells -/
theorem bcell {W w1 : World} (hb : Below W.heap.size W w1) : (∀ b o, b < W.heap.size → w1.cell? ⟨b, o, none⟩ = W.cell? ⟨b, o, none⟩) ∧ (∀ b o, b < W.heap.size → w1.frozen? ⟨b, o, none⟩ = W.frozen? ⟨b, o, none⟩) :=
  ⟨fun b o h => hb.cell (p := ⟨b, o, none⟩) h, fun b o h => hb.frozen (p := ⟨b, o, none⟩) h⟩

end Go.Proofs.Ythbpkmmnoeikoaa

/-
  UTF-8: what it means that a code stands at a list's beginning, said twice (by the first byte's class; by the code's own bytes), and that the two are one. No program text.
-/
namespace Go.Proofs.Ythbpkmmnoeikoaa.Uf
set_option linter.unusedVariables false
set_option linter.unusedSimpArgs false
abbrev F := List UInt8

def tl (x : UInt8) : Bool := decide (128 ≤ x.toNat ∧ x.toNat < 192)
def code (c : Nat) : Bool := decide (c < 55296 ∨ 57343 < c ∧ c ≤ 1114111)
def long (c : Nat) : Nat := if c < 128 then 1 else if c < 2048 then 2 else if c < 65536 then 3 else 4
def first (b : UInt8) : Nat × Nat :=
  if b.toNat < 128 then (1, b.toNat) else if 192 ≤ b.toNat ∧ b.toNat < 224 then (2, b.toNat % 32) else if 224 ≤ b.toNat ∧ b.toNat < 240 then (3, b.toNat % 16)
  else if 240 ≤ b.toNat ∧ b.toNat < 248 then (4, b.toNat % 8) else (0, 0)
def acc (c : Nat) (l : F) : Nat := l.foldl (fun c x => c * 64 + x.toNat % 64) c
/-- the code that stands at the beginning, and how many bytes it has -/
def get : F → Option (Nat × Nat)
  | [] => none
  | b :: r =>
    let p := first b
    if p.1 = 0 ∨ r.length + 1 < p.1 then none
    else if (r.take (p.1 - 1)).all tl = true ∧ long (acc p.2 (r.take (p.1 - 1))) = p.1 ∧ code (acc p.2 (r.take (p.1 - 1))) = true then some (acc p.2 (r.take (p.1 - 1)), p.1) else none
/-- a code's bytes -/
def put (c : Nat) : F :=
  if code c = false then [] else if c < 128 then [UInt8.ofNat c] else if c < 2048 then [UInt8.ofNat (192 + c / 64), UInt8.ofNat (128 + c % 64)]
  else if c < 65536 then [UInt8.ofNat (224 + c / 4096), UInt8.ofNat (128 + c / 64 % 64), UInt8.ofNat (128 + c % 64)]
  else [UInt8.ofNat (240 + c / 262144), UInt8.ofNat (128 + c / 4096 % 64), UInt8.ofNat (128 + c / 64 % 64), UInt8.ofNat (128 + c % 64)]
def head (b : UInt8) : Nat := if 240 ≤ b.toNat then b.toNat - 240 else if 224 ≤ b.toNat then b.toNat - 224 else if 192 ≤ b.toNat then b.toNat - 192 else b.toNat
/-- by the code's own bytes: from n of them on -/
def rget (l : F) : Nat → Nat → Option (Nat × Nat)
  | 0, _ => none
  | f + 1, n => match l with
    | [] => none
    | b :: r => if n ≤ 4 ∧ n ≤ r.length + 1 then (if put (acc (head b) (r.take (n - 1))) = (b :: r).take n then some (acc (head b) (r.take (n - 1)), n) else rget l f (n + 1)) else none

theorem put_len (c : Nat) : (put c).length = if code c = false then 0 else long c := by
  unfold put long
  split
  · rfl
  · split
    · rfl
    · split
      · rfl
      · split <;> rfl
theorem byte_lt (b : UInt8) : b.toNat < 256 := b.toNat_lt
theorem ofNat_eq (n : Nat) (b : UInt8) (h : n < 256) : UInt8.ofNat n = b ↔ n = b.toNat := by
  constructor
  · rintro rfl; rw [UInt8.toNat_ofNat']; omega
  · rintro rfl; simp
theorem acc_lt (c : Nat) : ∀ (l : F), acc c l < (c + 1) * 64 ^ l.length
  | [] => by simp [acc]
  | x :: l => by
    have ih := acc_lt (c * 64 + x.toNat % 64) l
    have e : acc c (x :: l) = acc (c * 64 + x.toNat % 64) l := rfl
    rw [e, List.length_cons, Nat.pow_succ]
    have : (c * 64 + x.toNat % 64 + 1) * 64 ^ l.length ≤ ((c + 1) * 64) * 64 ^ l.length := Nat.mul_le_mul_right _ (by omega)
    have e2 : (c + 1) * 64 * 64 ^ l.length = (c + 1) * (64 ^ l.length * 64) := by rw [Nat.mul_assoc, Nat.mul_comm 64]
    omega

theorem put1 (c : Nat) (b : UInt8) : put c = [b] ↔ c < 128 ∧ c = b.toNat := by
  have hb := byte_lt b
  constructor
  · intro h
    have hl := congrArg List.length h
    rw [put_len] at hl
    unfold put at h
    split at h
    · simp at h
    · split at h
      · rename_i hc
        simp only [List.cons.injEq, and_true] at h
        rw [ofNat_eq _ _ (by omega)] at h
        exact ⟨hc, h⟩
      · split at h
        · simp at h
        · split at h <;> simp at h
  · rintro ⟨h1, h2⟩
    unfold put
    have hcode : code c = true := by unfold code; simp; omega
    rw [hcode, if_neg (by simp), if_pos h1]
    simp only [List.cons.injEq, and_true]
    rw [ofNat_eq _ _ (by omega)]; exact h2
theorem put2 (c : Nat) (b x : UInt8) : put c = [b, x] ↔ 128 ≤ c ∧ c < 2048 ∧ 192 + c / 64 = b.toNat ∧ 128 + c % 64 = x.toNat := by
  have hb := byte_lt b
  constructor
  · intro h
    unfold put at h
    split at h
    · simp at h
    · split at h
      · simp at h
      · split at h
        · rename_i h1 h2
          simp only [List.cons.injEq, and_true] at h
          rw [ofNat_eq _ _ (by omega), ofNat_eq _ _ (by omega)] at h
          exact ⟨by omega, by omega, h⟩
        · split at h <;> simp at h
  · rintro ⟨h1, h2, h3, h4⟩
    unfold put
    have hcode : code c = true := by unfold code; simp; omega
    rw [hcode, if_neg (by simp), if_neg (by omega), if_pos h2]
    simp only [List.cons.injEq, and_true]
    rw [ofNat_eq _ _ (by omega), ofNat_eq _ _ (by omega)]; exact ⟨h3, h4⟩
theorem put3 (c : Nat) (b x y : UInt8) : put c = [b, x, y] ↔ 2048 ≤ c ∧ c < 65536 ∧ code c = true ∧ 224 + c / 4096 = b.toNat ∧ 128 + c / 64 % 64 = x.toNat ∧ 128 + c % 64 = y.toNat := by
  have hb := byte_lt b
  constructor
  · intro h
    unfold put at h
    split at h
    · simp at h
    · split at h
      · simp at h
      · split at h
        · simp at h
        · split at h
          · rename_i h0 h1 h2 h3
            simp only [List.cons.injEq, and_true] at h
            rw [ofNat_eq _ _ (by omega), ofNat_eq _ _ (by omega), ofNat_eq _ _ (by omega)] at h
            exact ⟨by omega, by omega, by simpa using h0, h⟩
          · simp at h
  · rintro ⟨h1, h2, hcode, h3, h4, h5⟩
    unfold put
    rw [hcode, if_neg (by simp), if_neg (by omega), if_neg (by omega), if_pos h2]
    simp only [List.cons.injEq, and_true]
    rw [ofNat_eq _ _ (by omega), ofNat_eq _ _ (by omega), ofNat_eq _ _ (by omega)]; exact ⟨h3, h4, h5⟩
theorem put4 (c : Nat) (b x y z : UInt8) : put c = [b, x, y, z] ↔ 65536 ≤ c ∧ c ≤ 1114111 ∧ 240 + c / 262144 = b.toNat ∧ 128 + c / 4096 % 64 = x.toNat ∧ 128 + c / 64 % 64 = y.toNat ∧ 128 + c % 64 = z.toNat := by
  have hb := byte_lt b
  constructor
  · intro h
    unfold put at h
    split at h
    · simp at h
    · split at h
      · simp at h
      · split at h
        · simp at h
        · split at h
          · simp at h
          · rename_i h0 h1 h2 h3
            have hcd : c ≤ 1114111 := by
              have h0' : code c = true := by simpa using h0
              unfold code at h0'
              simp at h0'; omega
            simp only [List.cons.injEq, and_true] at h
            rw [ofNat_eq _ _ (by omega), ofNat_eq _ _ (by omega), ofNat_eq _ _ (by omega), ofNat_eq _ _ (by omega)] at h
            exact ⟨by omega, hcd, h⟩
  · rintro ⟨h1, h2, h3, h4, h5, h6⟩
    unfold put
    have hcode : code c = true := by unfold code; simp; omega
    rw [hcode, if_neg (by simp), if_neg (by omega), if_neg (by omega), if_neg (by omega)]
    simp only [List.cons.injEq, and_true]
    rw [ofNat_eq _ _ (by omega), ofNat_eq _ _ (by omega), ofNat_eq _ _ (by omega), ofNat_eq _ _ (by omega)]; exact ⟨h3, h4, h5, h6⟩

theorem no2 (b : UInt8) (r : F) (h : put (acc (head b) (r.take 1)) = (b :: r).take 2) : r.length = 0 ∨ ∃ x t, r = x :: t ∧ 128 ≤ head b * 64 + x.toNat % 64 ∧ head b * 64 + x.toNat % 64 < 2048 ∧ 192 + head b = b.toNat ∧ 128 + x.toNat % 64 = x.toNat := by
  cases r with
  | nil => exact .inl rfl
  | cons x t =>
    right
    have e : acc (head b) ((x :: t).take 1) = head b * 64 + x.toNat % 64 := rfl
    rw [e] at h
    have h2 := (put2 _ _ _).1 h
    exact ⟨x, t, rfl, h2.1, h2.2.1, by omega, by omega⟩
theorem rget_nil (f n : Nat) : rget [] f n = none := by cases f <;> rfl
theorem rget_no (b : UInt8) (r : F) : ∀ (f n : Nat), (∀ m, n ≤ m → m ≤ 4 → m ≤ r.length + 1 → put (acc (head b) (r.take (m - 1))) ≠ (b :: r).take m) → rget (b :: r) f n = none
  | 0, _, _ => rfl
  | f + 1, n, h => by
    unfold rget
    dsimp only
    split
    · rename_i hc
      rw [if_neg (h n (Nat.le_refl _) hc.1 hc.2)]
      exact rget_no b r f (n + 1) (fun m hm => h m (by omega))
    · rfl
theorem rget_go (b : UInt8) (r : F) (f n : Nat) (h : n ≤ r.length + 1 → put (acc (head b) (r.take (n - 1))) ≠ (b :: r).take n) (hn : n ≤ 4) : rget (b :: r) (f + 1) n = if n ≤ r.length + 1 then rget (b :: r) f (n + 1) else none := by
  conv => lhs; unfold rget
  dsimp only
  by_cases hc : n ≤ r.length + 1
  · rw [if_pos ⟨hn, hc⟩, if_pos hc, if_neg (h hc)]
  · rw [if_neg (fun q => hc q.2), if_neg hc]
theorem rget_at (b : UInt8) (r : F) (f n : Nat) (hn : n ≤ 4) (hc : n ≤ r.length + 1) (h : ∀ m, n < m → m ≤ 4 → m ≤ r.length + 1 → put (acc (head b) (r.take (m - 1))) ≠ (b :: r).take m) :
    rget (b :: r) (f + 1) n = if put (acc (head b) (r.take (n - 1))) = (b :: r).take n then some (acc (head b) (r.take (n - 1)), n) else none := by
  conv => lhs; unfold rget
  dsimp only
  rw [if_pos ⟨hn, hc⟩]
  split
  · rfl
  · exact rget_no b r f (n + 1) (fun m hm => h m (by omega))

theorem len_ge1 {r : F} (h : 2 ≤ r.length + 1) : ∃ x t, r = x :: t := by
  cases r with
  | nil => simp at h
  | cons x t => exact ⟨x, t, rfl⟩
theorem len_ge2 {r : F} (h : 3 ≤ r.length + 1) : ∃ x y t, r = x :: y :: t := by
  obtain ⟨x, t, rfl⟩ := len_ge1 (by omega : 2 ≤ r.length + 1)
  simp only [List.length_cons] at h
  obtain ⟨y, u, rfl⟩ := len_ge1 (by omega : 2 ≤ t.length + 1)
  exact ⟨x, y, u, rfl⟩
theorem len_ge3 {r : F} (h : 4 ≤ r.length + 1) : ∃ x y z t, r = x :: y :: z :: t := by
  obtain ⟨x, y, t, rfl⟩ := len_ge2 (by omega : 3 ≤ r.length + 1)
  simp only [List.length_cons] at h
  obtain ⟨z, u, rfl⟩ := len_ge1 (by omega : 2 ≤ t.length + 1)
  exact ⟨x, y, z, u, rfl⟩
theorem acc1 (c : Nat) (x : UInt8) : acc c [x] = c * 64 + x.toNat % 64 := rfl
theorem acc2 (c : Nat) (x y : UInt8) : acc c [x, y] = (c * 64 + x.toNat % 64) * 64 + y.toNat % 64 := rfl
theorem acc3 (c : Nat) (x y z : UInt8) : acc c [x, y, z] = ((c * 64 + x.toNat % 64) * 64 + y.toNat % 64) * 64 + z.toNat % 64 := rfl

theorem head_cases (b : UInt8) : (240 ≤ b.toNat ∧ head b = b.toNat - 240) ∨ (224 ≤ b.toNat ∧ b.toNat < 240 ∧ head b = b.toNat - 224) ∨ (192 ≤ b.toNat ∧ b.toNat < 224 ∧ head b = b.toNat - 192) ∨ (b.toNat < 192 ∧ head b = b.toNat) := by
  unfold head
  by_cases h1 : 240 ≤ b.toNat
  · rw [if_pos h1]; omega
  · rw [if_neg h1]
    by_cases h2 : 224 ≤ b.toNat
    · rw [if_pos h2]; omega
    · rw [if_neg h2]
      by_cases h3 : 192 ≤ b.toNat
      · rw [if_pos h3]; omega
      · rw [if_neg h3]; omega
/-- no code has these bytes: by the first byte and the count -/
theorem ne1 (b : UInt8) (r : F) (hb : 128 ≤ b.toNat) : put (acc (head b) (r.take 0)) ≠ (b :: r).take 1 := by
  intro h
  have := (put1 _ _).1 h
  simp only [List.take_zero, acc, List.foldl_nil] at this
  omega
theorem ne2 (b : UInt8) (r : F) (hb : b.toNat < 192 ∨ 224 ≤ b.toNat) (h8 : 128 ≤ b.toNat) (hl : 2 ≤ r.length + 1) : put (acc (head b) (r.take 1)) ≠ (b :: r).take 2 := by
  obtain ⟨x, t, rfl⟩ := len_ge1 hl
  intro h
  have := (put2 (acc (head b) [x]) b x).1 h
  rw [acc1] at this
  have h9 := byte_lt b
  have hh := head_cases b
  generalize head b = hd at *
  clear h
  omega
theorem ne3 (b : UInt8) (r : F) (hb : b.toNat < 224 ∨ 240 ≤ b.toNat) (h8 : 128 ≤ b.toNat) (hl : 3 ≤ r.length + 1) : put (acc (head b) (r.take 2)) ≠ (b :: r).take 3 := by
  obtain ⟨x, y, t, rfl⟩ := len_ge2 hl
  intro h
  have := (put3 (acc (head b) [x, y]) b x y).1 h
  rw [acc2] at this
  obtain ⟨a1, a2, a3, a4, a5, a6⟩ := this
  clear a3 h
  have h9 := byte_lt b
  have hh := head_cases b
  generalize head b = hd at *
  omega
theorem ne4 (b : UInt8) (r : F) (hb : b.toNat < 240 ∨ 248 ≤ b.toNat) (h8 : 128 ≤ b.toNat) (hl : 4 ≤ r.length + 1) : put (acc (head b) (r.take 3)) ≠ (b :: r).take 4 := by
  obtain ⟨x, y, z, t, rfl⟩ := len_ge3 hl
  intro h
  have := (put4 (acc (head b) [x, y, z]) b x y z).1 h
  rw [acc3] at this
  obtain ⟨a1, a2, a4, a5, a6, a7⟩ := this
  clear h a5 a6 a7
  have h9 := byte_lt b
  have hh := head_cases b
  generalize head b = hd at *
  omega

theorem get_none (b : UInt8) (r : F) (h : (first b).1 = 0 ∨ r.length + 1 < (first b).1) : get (b :: r) = none := by
  unfold get
  dsimp only
  rw [if_pos h]

theorem rget_get (l : F) : rget l 4 1 = get l := by
  cases l with
  | nil => rfl
  | cons b r =>
    have hb := byte_lt b
    by_cases h1 : b.toNat < 128
    · have hh : head b = b.toNat := by unfold head; rw [if_neg (by omega), if_neg (by omega), if_neg (by omega)]
      have hf : first b = (1, b.toNat) := by unfold first; rw [if_pos h1]
      unfold rget get
      dsimp only
      have hp : put (acc (head b) (r.take (1 - 1))) = (b :: r).take 1 := by
        rw [hh]; exact (put1 _ _).2 ⟨h1, rfl⟩
      rw [if_pos ⟨by omega, by omega⟩, if_pos hp, hf]
      dsimp only
      rw [if_neg (by omega), if_pos, hh]
      refine ⟨rfl, ?_, ?_⟩
      · show long b.toNat = 1; unfold long; rw [if_pos h1]
      · show code b.toNat = true; unfold code; simp; omega
    · have n1 := ne1 b r (by omega)
      rw [rget_go b r 3 1 (fun _ => n1) (by omega), if_pos (by omega)]
      by_cases h2 : 192 ≤ b.toNat ∧ b.toNat < 224
      · have hh : head b = b.toNat - 192 := by unfold head; rw [if_neg (by omega), if_neg (by omega), if_pos (by omega)]
        have hf : first b = (2, b.toNat % 32) := by unfold first; rw [if_neg h1, if_pos h2]
        have hm : b.toNat % 32 = b.toNat - 192 := by omega
        by_cases hl : 2 ≤ r.length + 1
        · rw [rget_at b r 2 2 (by omega) hl (fun m q1 q2 q3 => by
            rcases (by omega : m = 3 ∨ m = 4) with rfl | rfl
            · exact ne3 b r (by omega) (by omega) q3
            · exact ne4 b r (by omega) (by omega) q3)]
          obtain ⟨x, t, rfl⟩ := len_ge1 hl
          unfold get
          dsimp only
          rw [hf]
          dsimp only
          rw [if_neg (show ¬ (2 = 0 ∨ (x :: t).length + 1 < 2) by simp only [List.length_cons]; omega), hm, hh]
          simp only [show (2 - 1 : Nat) = 1 from rfl, List.take_succ_cons, List.take_zero, acc1, List.all_cons, List.all_nil, Bool.and_true]
          have hx := byte_lt x
          by_cases hc : put ((b.toNat - 192) * 64 + x.toNat % 64) = [b, x]
          · rw [if_pos hc, if_pos]
            have := (put2 _ _ _).1 hc
            refine ⟨by unfold tl; simp; omega, ?_, by unfold code; simp; omega⟩
            unfold long; rw [if_neg (by omega), if_pos (by omega)]
          · rw [if_neg hc, if_neg]
            rintro ⟨q1, q2, q3⟩
            refine hc ((put2 _ _ _).2 ?_)
            unfold tl at q1
            simp at q1
            unfold long at q2
            split at q2
            · omega
            · refine ⟨by omega, by omega, by omega, by omega⟩
        · rw [rget_go b r 2 2 (fun q => absurd q hl) (by omega), if_neg hl]
          rw [get_none b r (by rw [hf]; dsimp only; omega)]
      · rw [rget_go b r 2 2 (fun q => ne2 b r (by omega) (by omega) q) (by omega)]
        by_cases h3 : 224 ≤ b.toNat ∧ b.toNat < 240
        · have hh : head b = b.toNat - 224 := by unfold head; rw [if_neg (by omega), if_pos (by omega)]
          have hf : first b = (3, b.toNat % 16) := by unfold first; rw [if_neg h1, if_neg h2, if_pos h3]
          have hm : b.toNat % 16 = b.toNat - 224 := by omega
          by_cases hl : 3 ≤ r.length + 1
          · rw [if_pos (by omega), rget_at b r 1 3 (by omega) hl (fun m q1 q2 q3 => by
              obtain rfl : m = 4 := by omega
              exact ne4 b r (by omega) (by omega) q3)]
            obtain ⟨x, y, t, rfl⟩ := len_ge2 hl
            unfold get
            dsimp only
            rw [hf]
            dsimp only
            rw [if_neg (show ¬ (3 = 0 ∨ (x :: y :: t).length + 1 < 3) by simp only [List.length_cons]; omega), hm, hh]
            simp only [show (3 - 1 : Nat) = 2 from rfl, List.take_succ_cons, List.take_zero, acc2, List.all_cons, List.all_nil, Bool.and_true]
            have hx := byte_lt x
            have hy := byte_lt y
            by_cases hc : put (((b.toNat - 224) * 64 + x.toNat % 64) * 64 + y.toNat % 64) = [b, x, y]
            · rw [if_pos hc, if_pos]
              have := (put3 _ _ _ _).1 hc
              refine ⟨by unfold tl; simp; omega, ?_, this.2.2.1⟩
              unfold long; rw [if_neg (by omega), if_neg (by omega), if_pos (by omega)]
            · rw [if_neg hc, if_neg]
              rintro ⟨q1, q2, q3⟩
              refine hc ((put3 _ _ _ _).2 ?_)
              unfold tl at q1
              simp at q1
              unfold long at q2
              split at q2
              · omega
              · split at q2
                · omega
                · refine ⟨by omega, by omega, q3, by omega, by omega, by omega⟩
          · rw [rget_go b r 1 3 (fun q => absurd q hl) (by omega), if_neg hl]
            rw [get_none b r (by rw [hf]; dsimp only; omega)]
            split <;> rfl
        · rw [rget_go b r 1 3 (fun q => ne3 b r (by omega) (by omega) q) (by omega)]
          by_cases h4 : 240 ≤ b.toNat ∧ b.toNat < 248
          · have hh : head b = b.toNat - 240 := by unfold head; rw [if_pos (by omega)]
            have hf : first b = (4, b.toNat % 8) := by unfold first; rw [if_neg h1, if_neg h2, if_neg h3, if_pos h4]
            have hm : b.toNat % 8 = b.toNat - 240 := by omega
            by_cases hl : 4 ≤ r.length + 1
            · rw [if_pos (by omega), if_pos (by omega), rget_at b r 0 4 (by omega) hl (fun m q1 q2 q3 => by omega)]
              obtain ⟨x, y, z, t, rfl⟩ := len_ge3 hl
              unfold get
              dsimp only
              rw [hf]
              dsimp only
              rw [if_neg (show ¬ (4 = 0 ∨ (x :: y :: z :: t).length + 1 < 4) by simp only [List.length_cons]; omega), hm, hh]
              simp only [show (4 - 1 : Nat) = 3 from rfl, List.take_succ_cons, List.take_zero, acc3, List.all_cons, List.all_nil, Bool.and_true]
              have hx := byte_lt x
              have hy := byte_lt y
              have hz := byte_lt z
              by_cases hc : put ((((b.toNat - 240) * 64 + x.toNat % 64) * 64 + y.toNat % 64) * 64 + z.toNat % 64) = [b, x, y, z]
              · rw [if_pos hc, if_pos]
                have := (put4 _ _ _ _ _).1 hc
                refine ⟨by unfold tl; simp; omega, ?_, by unfold code; simp; omega⟩
                unfold long; rw [if_neg (by omega), if_neg (by omega), if_neg (by omega)]
              · rw [if_neg hc, if_neg]
                rintro ⟨q1, q2, q3⟩
                refine hc ((put4 _ _ _ _ _).2 ?_)
                unfold tl at q1
                simp at q1
                unfold code at q3
                simp at q3
                unfold long at q2
                split at q2
                · omega
                · split at q2
                  · omega
                  · split at q2
                    · omega
                    · refine ⟨by omega, by omega, by omega, by omega, by omega, by omega⟩
            · have hn : rget (b :: r) 1 4 = none := rget_no b r 1 4 (fun m q1 q2 q3 => by omega)
              rw [hn]
              rw [get_none b r (by rw [hf]; dsimp only; omega)]
              split <;> (try split) <;> rfl
          · have hn : rget (b :: r) 1 4 = none := rget_no b r 1 4 (fun m q1 q2 q3 => by
              obtain rfl : m = 4 := by omega
              exact ne4 b r (by omega) (by omega) q3)
            have hf : first b = (0, 0) := by unfold first; rw [if_neg h1, if_neg h2, if_neg h3, if_neg h4]
            rw [hn]
            rw [get_none b r (by rw [hf]; exact .inl rfl)]
            split <;> (try split) <;> rfl

end Go.Proofs.Ythbpkmmnoeikoaa.Uf

/-
  The program's utf: code, long, first, Get. Condition: places and counts that an int holds.
-/
namespace Go.Proofs.Ythbpkmmnoeikoaa
open Go Go.RowKit
set_option linter.unusedVariables false
set_option linter.unusedSimpArgs false

def codeI (c : Int) : Bool := decide (0 ≤ c ∧ c ≤ 1114111 ∧ (c < 55296 ∨ 57343 < c))
theorem codeI_nat (c : Nat) : codeI (c : Int) = Uf.code c := by
  unfold codeI Uf.code
  congr 1
  exact propext ⟨fun h => by omega, fun h => by omega⟩

theorem code_any (c : Int) (w : World) : Calls Try.prog 107 #[.int .i64 c] w fun e w' => e = .returned (.bool (codeI c)) ∧ w' = w := by
  unfold codeI
  rcases (by omega : c < 0 ∨ (0 ≤ c ∧ c < 55296) ∨ (55296 ≤ c ∧ c ≤ 57343) ∨ (57343 < c ∧ c ≤ 1114111) ∨ 1114111 < c) with h | h | h | h | h <;>
  · go_enter Try.func107, Try.ntmps107
    go_wp2
    go_ret
    exact ⟨ret_b (by rw [Bool.eq_iff_iff]; simp; try omega), rfl⟩
theorem rcode_any (c : Int) (w : World) : Calls Try.prog 89 #[.int .i64 c] w fun e w' => e = .returned (.bool (codeI c)) ∧ w' = w := by
  unfold codeI
  rcases (by omega : c < 0 ∨ (0 ≤ c ∧ c < 55296) ∨ (55296 ≤ c ∧ c ≤ 57343) ∨ (57343 < c ∧ c ≤ 1114111) ∨ 1114111 < c) with h | h | h | h | h <;>
  · go_enter Try.func89, Try.ntmps89
    go_wp2
    go_ret
    exact ⟨ret_b (by rw [Bool.eq_iff_iff]; simp; try omega), rfl⟩

def longH (c : Nat) : Nat := if c < 128 then 0 else if c < 2048 then 192 else if c < 65536 then 224 else 240
set_option maxRecDepth 100000 in
theorem long_any (c : Nat) (w : World) (hc : c ≤ 4294967296) : Calls Try.prog 106 #[.int .i64 (c : Int)] w fun e w' => e = .returned (.tuple #[.int .i64 (Uf.long c : Int), .int .i64 (longH c : Int)]) ∧ w' = w := by
  unfold Uf.long longH
  by_cases h1 : c < 128
  · rw [if_pos h1, if_pos h1]
    have t1 : decide ((c : Int) < 128) = true := decide_eq_true (by omega)
    clear h1 hc
    go_enter Try.func106, Try.ntmps106
    go_wp2
    go_ret2
    exact ⟨rfl, rfl⟩
  · rw [if_neg h1, if_neg h1]
    have t1 : decide ((c : Int) < 128) = false := decide_eq_false (by omega)
    by_cases h2 : c < 2048
    · rw [if_pos h2, if_pos h2]
      have t2 : decide ((c : Int) < 2048) = true := decide_eq_true (by omega)
      clear h1 h2 hc
      go_enter Try.func106, Try.ntmps106
      go_wp2
      go_ret2
      exact ⟨rfl, rfl⟩
    · rw [if_neg h2, if_neg h2]
      have t2 : decide ((c : Int) < 2048) = false := decide_eq_false (by omega)
      by_cases h3 : c < 65536
      · rw [if_pos h3, if_pos h3]
        have t3 : decide ((c : Int) < 65536) = true := decide_eq_true (by omega)
        clear h1 h2 h3 hc
        go_enter Try.func106, Try.ntmps106
        go_wp2
        go_ret2
        exact ⟨rfl, rfl⟩
      · rw [if_neg h3, if_neg h3]
        have t3 : decide ((c : Int) < 65536) = false := decide_eq_false (by omega)
        clear h1 h2 h3 hc
        go_enter Try.func106, Try.ntmps106
        go_wp2
        go_ret2
        exact ⟨rfl, rfl⟩

theorem u8_mask (b : UInt8) (m k : Nat) (hm : m < 256) (h : ∀ x : Nat, x &&& m = x % k) : bits .and .u8 (b.toNat : Int) (m : Int) = ((b.toNat % k : Nat) : Int) := by
  rw [u8_and_nat _ _ b.toNat_lt hm, h]
set_option maxRecDepth 100000 in
theorem first_any (b : UInt8) (w : World) : Calls Try.prog 105 #[.int .u8 (b.toNat : Int)] w fun e w' => e = .returned (.tuple #[.int .i64 ((Uf.first b).1 : Int), .int .i64 ((Uf.first b).2 : Int)]) ∧ w' = w := by
  have hb := b.toNat_lt
  have m31 : bits .and .u8 (b.toNat : Int) 31 = ((b.toNat % 32 : Nat) : Int) := u8_mask b 31 32 (by decide) nat_mask5
  have m15 : bits .and .u8 (b.toNat : Int) 15 = ((b.toNat % 16 : Nat) : Int) := u8_mask b 15 16 (by decide) nat_mask4
  have m7 : bits .and .u8 (b.toNat : Int) 7 = ((b.toNat % 8 : Nat) : Int) := u8_mask b 7 8 (by decide) nat_mask3
  unfold Uf.first
  by_cases h1 : b.toNat < 128
  · rw [if_pos h1]
    go_enter Try.func105, Try.ntmps105
    go_wp2
    go_ret2
    exact ⟨rfl, rfl⟩
  · rw [if_neg h1]
    by_cases h2 : 192 ≤ b.toNat ∧ b.toNat < 224
    · rw [if_pos h2]
      go_enter Try.func105, Try.ntmps105
      go_wp2
      go_ret2
      exact ⟨rfl, rfl⟩
    · rw [if_neg h2]
      by_cases h3 : 224 ≤ b.toNat ∧ b.toNat < 240
      · rw [if_pos h3]
        go_enter Try.func105, Try.ntmps105
        go_wp2
        go_ret2
        exact ⟨rfl, rfl⟩
      · rw [if_neg h3]
        by_cases h4 : 240 ≤ b.toNat ∧ b.toNat < 248
        · rw [if_pos h4]
          go_enter Try.func105, Try.ntmps105
          go_wp2
          go_ret2
          exact ⟨rfl, rfl⟩
        · rw [if_neg h4]
          rcases (by omega : b.toNat < 192 ∨ 248 ≤ b.toNat) with h | h
          · go_enter Try.func105, Try.ntmps105
            go_wp2
            go_ret2
            exact ⟨rfl, rfl⟩
          · go_enter Try.func105, Try.ntmps105
            go_wp2
            go_ret2
            exact ⟨rfl, rfl⟩

/-! ### bytes in memory -/
/-- v is a slice of the bytes xs -/
def BytesV (w : World) (v : Value) (xs : List UInt8) : Prop :=
  ∃ p cap, v = .slice p xs.length cap ∧ xs.length ≤ cap ∧ cap ≤ maxLen ∧ ∀ (j : Nat) (hj : j < xs.length), ∃ b o, p = some ⟨b, o, none⟩ ∧ w.cell? ⟨b, o + j, none⟩ = some (.int .u8 (xs[j].toNat : Int))
theorem BytesV.below {w w' : World} {v : Value} {xs : List UInt8} (h : BytesV w v xs) (hb : Below w.heap.size w w') : BytesV w' v xs :=
  let ⟨p, cap, e, h1, h2, hc⟩ := h
  ⟨p, cap, e, h1, h2, fun j hj => let ⟨b, o, q1, q2⟩ := hc j hj; ⟨b, o, q1, (World.cell?_of_block (hb.block b (World.block_lt_of_cell? w _ q2))).trans q2⟩⟩

theorem acc_take (c : Nat) (r : List UInt8) (m : Nat) (h : m < r.length) : Uf.acc c (r.take (m + 1)) = Uf.acc c (r.take m) * 64 + r[m].toNat % 64 := by
  rw [List.take_add_one, List.getElem?_eq_getElem h, Option.toList_some]
  unfold Uf.acc
  rw [List.foldl_append]; rfl
theorem all_take (r : List UInt8) (m : Nat) (h : m < r.length) : (r.take (m + 1)).all Uf.tl = ((r.take m).all Uf.tl && Uf.tl r[m]) := by
  rw [List.take_add_one, List.getElem?_eq_getElem h, Option.toList_some, List.all_append]; simp
theorem andNot63 (x : UInt8) : bits .andNot .u8 (x.toNat : Int) 63 = (x.toNat : Int) / 64 * 64 := by
  have := u8_andNot_nat x.toNat 63 x.toNat_lt (by decide)
  rw [show ((63 : Nat) : Int) = 63 from rfl] at this
  rw [this]
  have h : ∀ n : Nat, n < 256 → n &&& (255 - 63) = n / 64 * 64 := by decide +kernel
  rw [h _ x.toNat_lt]; simp
theorem tl_eq (x : UInt8) : ((x.toNat : Int) / 64 * 64 != 128) = !Uf.tl x := by
  have := x.toNat_lt
  unfold Uf.tl
  rw [Bool.eq_iff_iff]
  simp only [bne_iff_ne, ne_eq, Bool.not_eq_true', decide_eq_false_iff_not]
  omega
theorem ofInt_i64n (a : Nat) (ha : a < 9223372036854775808) : (BitVec.ofInt 64 (a : Int)).toNat = a := by
  rw [BitVec.ofInt_natCast, BitVec.toNat_ofNat]; exact Nat.mod_eq_of_lt (by omega)
theorem i64_or_nat (a b : Nat) (ha : a < 9223372036854775808) (hb : b < 9223372036854775808) : bits .or .i64 (a : Int) (b : Int) = ((a ||| b : Nat) : Int) := by
  have hx : a ||| b < 2 ^ 63 := Nat.or_lt_two_pow (by omega) (by omega)
  show IntKind.i64.wrap ((BitVec.ofInt 64 (a : Int) ||| BitVec.ofInt 64 (b : Int)).toNat : Int) = _
  rw [BitVec.toNat_or, ofInt_i64n a ha, ofInt_i64n b hb, IntKind.wrap_i64]
  omega
theorem i64_and_nat (a b : Nat) (ha : a < 9223372036854775808) (hb : b < 9223372036854775808) : bits .and .i64 (a : Int) (b : Int) = ((a &&& b : Nat) : Int) := by
  have hx : a &&& b < 2 ^ 63 := Nat.and_lt_two_pow _ (by omega)
  show IntKind.i64.wrap ((BitVec.ofInt 64 (a : Int) &&& BitVec.ofInt 64 (b : Int)).toNat : Int) = _
  rw [BitVec.toNat_and, ofInt_i64n a ha, ofInt_i64n b hb, IntKind.wrap_i64]
  omega
theorem or_low (c x : Nat) (hc : c < 4294967296) (hx : x < 64) : bits .or .i64 ((c : Int) * 64) (x : Int) = ((c * 64 + x : Nat) : Int) := by
  have h1 : c * 64 ||| x = c * 64 + x := nat_join 6 (c * 64) x (by omega) (by omega)
  have h2 := i64_or_nat (c * 64) x (by omega) (by omega)
  rw [h1, Int.natCast_mul] at h2
  exact h2

def getV : Option (Nat × Nat) → Value
  | none => .tuple #[.int .i64 0, .int .i64 0, .bool false]
  | some p => .tuple #[.int .i64 (p.1 : Int), .int .i64 (p.2 : Int), .bool true]

def GgR (r : List UInt8) (c0 : Nat) (n : Nat) (w0 : World) (c i : Value) (w : World) : Prop :=
  ∃ m : Nat, m ≤ n ∧ i = .int .i64 (m : Int) ∧ c = .int .i64 (Uf.acc c0 (r.take m) : Int) ∧ w = w0 ∧ Hid ((r.take m).all Uf.tl = true)

theorem first_bounds (b : UInt8) : (Uf.first b).1 ≤ 4 ∧ (Uf.first b).2 < 128 := by
  unfold Uf.first
  split
  · exact ⟨by dsimp only; omega, by assumption⟩
  · split
    · exact ⟨by dsimp only; omega, by dsimp only; omega⟩
    · split
      · exact ⟨by dsimp only; omega, by dsimp only; omega⟩
      · split
        · exact ⟨by dsimp only; omega, by dsimp only; omega⟩
        · exact ⟨by decide, by decide⟩
theorem acc_bound (c : Nat) (hc : c < 128) (r : List UInt8) (m : Nat) (hm : m ≤ 3) : Uf.acc c (r.take m) < 33554432 := by
  have h := Uf.acc_lt c (r.take m)
  have h1 : (r.take m).length ≤ 3 := by rw [List.length_take]; omega
  have h2 : 64 ^ (r.take m).length ≤ 64 ^ 3 := Nat.pow_le_pow_right (by decide) h1
  have h3 : (c + 1) * 64 ^ (r.take m).length ≤ 128 * 64 ^ 3 := Nat.mul_le_mul (by omega) h2
  omega

set_option maxRecDepth 100000 in
set_option maxHeartbeats 2000000 in
theorem get_any (v : Value) (xs : List UInt8) (at1 : Nat) (w : World) (hv : BytesV w v xs) (hat : at1 ≤ xs.length) (hlen : xs.length ≤ 4294967296) :
    Calls Try.prog 92 #[v, .int .i64 (at1 : Int)] w fun e w' => e = .returned (getV (Uf.get (xs.drop at1))) ∧ w' = w := by
  obtain ⟨p, cap, rfl, hcap, hcapm, hc⟩ := hv
  by_cases hlt : at1 < xs.length
  · obtain ⟨b, o, rfl, hc0⟩ := hc at1 hlt
    have hd : xs.drop at1 = xs[at1] :: xs.drop (at1 + 1) := (List.getElem_cons_drop hlt).symm
    have hfb := first_bounds xs[at1]
    have hg : Uf.get (xs.drop at1) = if (Uf.first xs[at1]).1 = 0 ∨ xs.length - at1 < (Uf.first xs[at1]).1 then none
      else if ((xs.drop (at1 + 1)).take ((Uf.first xs[at1]).1 - 1)).all Uf.tl = true ∧ Uf.long (Uf.acc (Uf.first xs[at1]).2 ((xs.drop (at1 + 1)).take ((Uf.first xs[at1]).1 - 1))) = (Uf.first xs[at1]).1 ∧ Uf.code (Uf.acc (Uf.first xs[at1]).2 ((xs.drop (at1 + 1)).take ((Uf.first xs[at1]).1 - 1))) = true then some (Uf.acc (Uf.first xs[at1]).2 ((xs.drop (at1 + 1)).take ((Uf.first xs[at1]).1 - 1)), (Uf.first xs[at1]).1) else none := by
      rw [hd, Uf.get]
      try dsimp only
      rw [List.length_drop, show xs.length - (at1 + 1) + 1 = xs.length - at1 by omega]
    have hr : ∀ (j : Nat) (hj : j < (xs.drop (at1 + 1)).length), w.cell? ⟨b, o + (at1 + 1) + j, none⟩ = some (.int .u8 (((xs.drop (at1 + 1))[j]).toNat : Int)) := fun j hj => by
      rw [List.length_drop] at hj
      obtain ⟨b', o', e, q⟩ := hc (at1 + 1 + j) (by omega)
      cases e
      rw [List.getElem_drop, ← q, Nat.add_assoc]
    have hrl : (xs.drop (at1 + 1)).length = xs.length - (at1 + 1) := List.length_drop
    have hfa := fun W => first_any xs[at1] W
    generalize Uf.get (xs.drop at1) = g at *
    clear hd
    generalize xs.drop (at1 + 1) = r at *
    generalize xs[at1] = x0 at *
    generalize Uf.first x0 = fp at *
    obtain ⟨n, c0⟩ := fp
    dsimp only at hfa hfb hg
    have HG := Lib.hid hg
    clear hg
    have HFA := Lib.hid hfa
    clear hfa hc
    by_cases h0 : n = 0
    · subst h0
      obtain rfl : g = none := HG.out.trans (if_pos (.inl rfl))
      go_enter Try.func92, Try.ntmps92
      go_wp2_with (go_at_call 105; refine (HFA.out _).mono ?_; rintro e w1 ⟨rfl, rfl⟩)
      exact bodyPost_ret (v := getV none) (by simp [results, Try.results92, go_sem, getV]) rfl ⟨rfl, rfl⟩
    · by_cases h1 : xs.length - at1 < n
      · obtain rfl : g = none := HG.out.trans (if_pos (.inr h1))
        have tg : decide ((n : Int) > (xs.length : Int) - (at1 : Int)) = true := decide_eq_true (by omega)
        go_enter Try.func92, Try.ntmps92
        go_wp2_with (go_at_call 105; refine (HFA.out _).mono ?_; rintro e w1 ⟨rfl, rfl⟩)
        exact bodyPost_ret (v := getV none) (by simp [results, Try.results92, go_sem, getV]) rfl ⟨rfl, rfl⟩
      · have HGG := Lib.hid (HG.out.trans (if_neg (fun h => h.elim h0 h1)))
        clear HG
        have tg : decide ((n : Int) > (xs.length : Int) - (at1 : Int)) = false := decide_eq_false (by omega)
        have g1 : (at1 : Int) + 1 ≤ (at1 : Int) + (n : Int) := by omega
        have g2 : (at1 : Int) + (n : Int) ≤ (cap : Int) := by omega
        by_cases hcq : cap = at1 + 1
        · obtain rfl : n = 1 := by omega
          go_enter Try.func92, Try.ntmps92
          go_wp2_with (go_at_call 105; refine (HFA.out _).mono ?_; rintro e w1 ⟨rfl, rfl⟩)
          go_loopw [8, 47] (GgR r c0 (1 - 1) w1) (fun _ i _ => 1 - (intOf i).toNat)
          case atStart => exact ⟨0, Nat.zero_le _, by go_num, rfl, rfl, rfl⟩
          case round =>
            obtain ⟨m, hm, rfl, rfl, rfl, HT⟩ := hrel
            have hac := acc_bound c0 hfb.2 r m (by omega)
            obtain rfl : m = 1 - 1 := by omega
            have hlo := fun W => long_any (Uf.acc c0 (r.take (1 - 1))) W (by omega)
            have hco := fun W => code_any (Uf.acc c0 (r.take (1 - 1)) : Int) W
            simp only [codeI_nat] at hco
            have HC := HGG.out
            clear HGG
            generalize Uf.acc c0 (r.take (1 - 1)) = c at *
            have HGG := Lib.hid HC
            clear HC
            have HLO := Lib.hid hlo
            have HCO := Lib.hid hco
            clear hlo hco
            generalize hld : Uf.long c = ld at *
            generalize hcd : Uf.code c = cd at *
            by_cases hq : ld = 1 ∧ cd = true
            · obtain ⟨rfl, rfl⟩ := hq
              obtain rfl : g = some (c, 1) := HGG.out.trans (if_pos ⟨HT.out, rfl, rfl⟩)
              clear HGG
              go_wp2_with (first | (go_at_call 106; refine (HLO.out _).mono ?_; rintro e w2 ⟨rfl, rfl⟩) | (go_at_call 107; refine (HCO.out _).mono ?_; rintro e w2 ⟨rfl, rfl⟩))
              exact bodyPost_ret (v := getV (some (c, 1))) (by simp [results, Try.results92, go_sem, getV]) rfl ⟨rfl, rfl⟩
            · obtain rfl : g = none := HGG.out.trans (if_neg (fun h => hq h.2))
              clear HGG
              cases cd with
              | false =>
                go_wp2_with (first | (go_at_call 106; refine (HLO.out _).mono ?_; rintro e w2 ⟨rfl, rfl⟩) | (go_at_call 107; refine (HCO.out _).mono ?_; rintro e w2 ⟨rfl, rfl⟩))
                exact bodyPost_ret (v := getV none) (by simp [results, Try.results92, go_sem, getV]) rfl ⟨rfl, rfl⟩
              | true =>
                have tn : ((ld : Int) != 1) = true := by rw [bne_iff_ne]; intro h; exact hq ⟨by omega, rfl⟩
                go_wp2_with (first | (go_at_call 106; refine (HLO.out _).mono ?_; rintro e w2 ⟨rfl, rfl⟩) | (go_at_call 107; refine (HCO.out _).mono ?_; rintro e w2 ⟨rfl, rfl⟩))
                exact bodyPost_ret (v := getV none) (by simp [results, Try.results92, go_sem, getV]) rfl ⟨rfl, rfl⟩
        · go_enter Try.func92, Try.ntmps92
          go_wp2_with (go_at_call 105; refine (HFA.out _).mono ?_; rintro e w1 ⟨rfl, rfl⟩)
          go_loopw [8, 47] (GgR r c0 (n - 1) w1) (fun _ i _ => n - (intOf i).toNat)
          case atStart => exact ⟨0, Nat.zero_le _, by go_num, rfl, rfl, rfl⟩
          case round =>
            obtain ⟨m, hm, rfl, rfl, rfl, HT⟩ := hrel
            have hac := acc_bound c0 hfb.2 r m (by omega)
            have hac4 := acc_bound c0 hfb.2 r (m + 1)
            by_cases hlm : m < n - 1
            · have hmr : m < r.length := by omega
              have hcm := hr m hmr
              have hct := acc_take c0 r m hmr
              have hat2 := all_take r m hmr
              have hle : r.take (n - 1) = r.take m ++ r[m] :: (r.drop (m + 1)).take (n - 1 - (m + 1)) := by
                have e1 : r.take (n - 1) = (r.take (n - 1)).take m ++ (r.take (n - 1)).drop m := (List.take_append_drop _ _).symm
                rw [e1, List.take_take, Nat.min_eq_left (by omega), List.drop_take, ← List.getElem_cons_drop hmr, show n - 1 - m = (n - 1 - (m + 1)) + 1 by omega, List.take_succ_cons]
              have hne : Uf.tl r[m] = false → (r.take (n - 1)).all Uf.tl = false := fun h => by rw [hle, List.all_append, List.all_cons, h]; simp
              generalize r[m] = x at *
              have b1 := andNot63 x
              have b2 := tl_eq x
              have b3 : bits .and .u8 (x.toNat : Int) 63 = (x.toNat : Int) % 64 := (u8_mask x 63 64 (by decide) nat_mask6).trans (by simp)
              have b4 := or_low (Uf.acc c0 (r.take m)) (x.toNat % 64) (by omega) (Nat.mod_lt _ (by decide))
              rw [← hct, show ((x.toNat % 64 : Nat) : Int) = (x.toNat : Int) % 64 by simp] at b4
              have HNE := Lib.hid hne
              have HA2 := Lib.hid hat2
              clear hne hat2 hle hct
              have hx := x.toNat_lt
              cases ht : Uf.tl x with
              | true =>
                rw [ht] at b2; simp only [Bool.not_true, Bool.not_false] at b2
                have HTT := Lib.hid ht
                clear ht
                go_wp2
                go_roundw
                case rel => exact ⟨m + 1, by omega, by go_num, rfl, rfl, by unfold Hid; rw [HA2.out, HT.out, HTT.out]; rfl⟩
                case measure => simp [intOf]; omega
              | false =>
                rw [ht] at b2; simp only [Bool.not_true, Bool.not_false] at b2
                have HN := Lib.hid (HNE.out ht)
                clear ht
                obtain rfl : g = none := HGG.out.trans (if_neg (fun h => by rw [HN.out] at h; exact absurd h.1 (by simp)))
                clear HGG
                go_wp2
                exact bodyPost_ret (v := getV none) (by simp [results, Try.results92, go_sem, getV]) rfl ⟨rfl, rfl⟩
            · obtain rfl : m = n - 1 := by omega
              have hlo := fun W => long_any (Uf.acc c0 (r.take (n - 1))) W (by omega)
              have hco := fun W => code_any (Uf.acc c0 (r.take (n - 1)) : Int) W
              simp only [codeI_nat] at hco
              have HC := HGG.out
              clear HGG
              generalize Uf.acc c0 (r.take (n - 1)) = c at *
              have HGG := Lib.hid HC
              clear HC
              have HLO := Lib.hid hlo
              have HCO := Lib.hid hco
              clear hlo hco
              generalize hld : Uf.long c = ld at *
              generalize hcd : Uf.code c = cd at *
              by_cases hq : ld = n ∧ cd = true
              · obtain ⟨rfl, rfl⟩ := hq
                obtain rfl : g = some (c, ld) := HGG.out.trans (if_pos ⟨HT.out, rfl, rfl⟩)
                clear HGG
                go_wp2_with (first | (go_at_call 106; refine (HLO.out _).mono ?_; rintro e w2 ⟨rfl, rfl⟩) | (go_at_call 107; refine (HCO.out _).mono ?_; rintro e w2 ⟨rfl, rfl⟩))
                exact bodyPost_ret (v := getV (some (c, ld))) (by simp [results, Try.results92, go_sem, getV]) rfl ⟨rfl, rfl⟩
              · obtain rfl : g = none := HGG.out.trans (if_neg (fun h => hq h.2))
                clear HGG
                cases cd with
                | false =>
                  go_wp2_with (first | (go_at_call 106; refine (HLO.out _).mono ?_; rintro e w2 ⟨rfl, rfl⟩) | (go_at_call 107; refine (HCO.out _).mono ?_; rintro e w2 ⟨rfl, rfl⟩))
                  exact bodyPost_ret (v := getV none) (by simp [results, Try.results92, go_sem, getV]) rfl ⟨rfl, rfl⟩
                | true =>
                  have tn : ((ld : Int) != (n : Int)) = true := by rw [bne_iff_ne]; intro h; exact hq ⟨by omega, rfl⟩
                  go_wp2_with (first | (go_at_call 106; refine (HLO.out _).mono ?_; rintro e w2 ⟨rfl, rfl⟩) | (go_at_call 107; refine (HCO.out _).mono ?_; rintro e w2 ⟨rfl, rfl⟩))
                  exact bodyPost_ret (v := getV none) (by simp [results, Try.results92, go_sem, getV]) rfl ⟨rfl, rfl⟩
  · have hd : xs.drop at1 = [] := List.drop_eq_nil_of_le (by omega)
    rw [hd]
    go_enter Try.func92, Try.ntmps92
    go_wp2_with fail
    exact bodyPost_ret (v := getV none) (by simp [results, Try.results92, go_sem, getV]) rfl ⟨rfl, rfl⟩

end Go.Proofs.Ythbpkmmnoeikoaa

/-
  A text turned to bytes: where they lie, and that they are the text's. Condition: a text of at most 2^32 bytes.
-/
namespace Go.Proofs.Ythbpkmmnoeikoaa
open Go Go.RowKit
set_option linter.unusedVariables false

def cvCap (s : ByteArray) (W : World) : Nat := grownCap W s.size 0 5
def cvBlk (s : ByteArray) (W : World) : Obj := .cells (bytesRow s (cvCap s W)) 5 ((bytesRow s (cvCap s W)).size, (bytesRow s (cvCap s W)).size + 1)
theorem cv_run (s : ByteArray) (W : World) : (convert 9 67 (.string s)).run Try.prog W = .ok (.slice (some ⟨W.heap.size, 0, none⟩) s.size (cvCap s W)) (W.drew.alloc (cvBlk s W)) :=
  run_bytes_of_string W 9 67 5 s Try.underlying9 Try.underlying67 Try.underlying5

theorem cv_bytes (s : ByteArray) (W : World) (hs : s.size ≤ maxLen) : BytesV (W.drew.alloc (cvBlk s W)) (.slice (some ⟨W.heap.size, 0, none⟩) s.size (cvCap s W)) s.data.toList := by
  have hl : s.data.toList.length = s.size := len_data s
  refine ⟨some ⟨W.heap.size, 0, none⟩, cvCap s W, by rw [hl], by rw [hl]; exact grownCap_ge W s.size 0 5, grownCap_le_maxLen W s.size 0 5 hs, fun j hj => ⟨W.heap.size, 0, rfl, ?_⟩⟩
  rw [hl] at hj
  have hb := heap_alloc_new W.drew (cvBlk s W)
  rw [Nat.zero_add]
  unfold World.cell?
  show (match (W.drew.alloc (cvBlk s W)).heap[W.heap.size]? with | some (.cells c _ _) => if (none : Option Nat).isSome then none else c[j]? | _ => none) = _
  rw [show W.heap.size = W.drew.heap.size from rfl, hb]
  unfold cvBlk bytesRow
  have hj2 : j < s.data.size := hj
  simp only [Option.isSome_none, Bool.false_eq_true, if_false]
  rw [Array.getElem?_append_left (by rw [Array.size_map]; exact hj2), Array.getElem?_map, Array.getElem?_eq_getElem hj2]
  rfl
theorem cv_below (s : ByteArray) (W : World) : Below W.heap.size W (W.drew.alloc (cvBlk s W)) := ((Below.refl _ W).drew).alloc (Nat.le_refl _) _

end Go.Proofs.Ythbpkmmnoeikoaa

/-
  Plain facts on decimal digits: what the program's numbers as texts are, by lists of bytes and whole numbers; no program is named here.
-/
namespace Go.Proofs.Ythbpkmmnoeikoaa
namespace Nm

/-- a digit's byte -/
def ch (d : Nat) : UInt8 := UInt8.ofNat (48 + d)
/-- digits, from behind, at most so many -/
def rd : Nat → Nat → List UInt8
  | 0, _ => []
  | f + 1, n => ch (n % 10) :: (if n < 10 then [] else rd f (n / 10))
/-- a number's digits -/
def pr (n : Int) : List UInt8 := (if n < 0 then [45] else []) ++ (rd 20 n.natAbs).reverse
def dig (c : UInt8) : Bool := decide (48 ≤ c.toNat) && decide (c.toNat ≤ 57)
/-- the number of digits, from behind -/
def vr : List UInt8 → Nat
  | [] => 0
  | c :: l => (c.toNat - 48) + 10 * vr l
def val (l : List UInt8) : Nat := vr l.reverse
def neg (s : List UInt8) : Bool := s.head? == some 45
def body (s : List UInt8) : List UInt8 := if neg s then s.tail else s
/-- the number of a text, or the error's number -/
def bad (s : List UInt8) : Bool := (body s).isEmpty || !((body s).all dig) || ((body s).head? == some 48 && (decide (1 < (body s).length) || neg s))
def bound (g : Bool) : Nat := if g then 9223372036854775808 else 9223372036854775807
def parse (s : List UInt8) : Int × Int :=
  if bad s then (0, 2)
  else if bound (neg s) < val (body s) then (0, 5)
  else (if neg s then -(val (body s) : Int) else val (body s), 0)
/-- how many digits a text begins with -/
def run : List UInt8 → Nat
  | [] => 0
  | c :: l => if dig c then run l + 1 else 0
def row (s : List UInt8) : Nat := if neg s then 1 + run s.tail else run s
def scan (s : List UInt8) (at_ : Int) : Int × Int × Int :=
  if at_ < 0 ∨ (s.length : Int) < at_ then (0, at_, 2)
  else
    let r := s.drop at_.toNat
    let p := parse (r.take (row r))
    if p.2 ≠ 0 then (0, at_, p.2) else (p.1, at_ + row r, 0)

theorem toNat_ch {d : Nat} (h : d < 10) : (ch d).toNat = 48 + d := by
  unfold ch; rw [UInt8.toNat_ofNat']; omega
theorem dig_ch {d : Nat} (h : d < 10) : dig (ch d) = true := by
  unfold dig; rw [toNat_ch h]; simp; omega
theorem ch_of {c : UInt8} (h : dig c = true) : ch (c.toNat - 48) = c := by
  unfold dig at h; simp at h
  apply UInt8.toNat_inj.1
  rw [toNat_ch (by omega)]; omega
theorem dig_range {c : UInt8} (h : dig c = true) : 48 ≤ c.toNat ∧ c.toNat ≤ 57 := by
  unfold dig at h; simpa using h

/-! ### digits of a number -/
theorem rd_dig : ∀ (f n : Nat), (rd f n).all dig = true
  | 0, _ => rfl
  | f + 1, n => by
    have := rd_dig f (n / 10)
    have h := dig_ch (d := n % 10) (by omega)
    unfold rd
    split <;> simp_all
theorem rd_len : ∀ (f n : Nat), (rd f n).length ≤ f
  | 0, _ => Nat.le_refl _
  | f + 1, n => by
    have := rd_len f (n / 10)
    unfold rd
    split <;> simp <;> omega
theorem rd_ne (f n : Nat) : rd (f + 1) n ≠ [] := by unfold rd; simp
theorem vr_rd : ∀ (f n : Nat), n < 10 ^ (f + 1) → vr (rd (f + 1) n) = n
  | 0, n, h => by
    simp at h
    have h1 := toNat_ch (d := n % 10) (by omega)
    simp only [rd, vr, h1, if_pos h]; omega
  | f + 1, n, h => by
    rw [rd]
    have ih := vr_rd f (n / 10) (by rw [Nat.pow_succ] at h; omega)
    have h1 := toNat_ch (d := n % 10) (by omega)
    split
    · simp [vr, h1]; omega
    · simp only [vr, h1, ih]; omega
theorem rd_last : ∀ (f n : Nat), n < 10 ^ (f + 1) → ∀ c, (rd (f + 1) n).getLast? = some c → c = 48 → n = 0
  | 0, n, h, c, hc, he => by
    simp at h
    simp [rd] at hc
    have h1 := toNat_ch (d := n % 10) (by omega)
    subst he; rw [hc] at h1
    have : (48 : UInt8).toNat = 48 := rfl
    omega
  | f + 1, n, h, c, hc, he => by
    rw [rd] at hc
    split at hc
    · simp at hc
      have h1 := toNat_ch (d := n % 10) (by omega)
      subst he; rw [hc] at h1
      have : (48 : UInt8).toNat = 48 := rfl
      omega
    · have hne := rd_ne f (n / 10)
      rw [List.getLast?_cons] at hc
      have h2 : (rd (f + 1) (n / 10)).getLast? = some c := by
        cases hl : (rd (f + 1) (n / 10)).getLast? with
        | none => simp [List.getLast?_eq_none_iff] at hl; exact absurd hl hne
        | some d => rw [hl] at hc; simpa using hc
      have := rd_last f (n / 10) (by rw [Nat.pow_succ] at h; omega) c h2 he
      omega
/-- what is read from behind is what would be printed -/
theorem vr_lo : ∀ (r : List UInt8), r.all dig = true → (∀ c, r.getLast? = some c → c ≠ 48) → r ≠ [] → 10 ^ (r.length - 1) ≤ vr r
  | [], _, _, h => absurd rfl h
  | [c], ha, hl, _ => by
    simp at ha
    have h1 := dig_range ha
    have h2 := hl c rfl
    have : c.toNat ≠ 48 := fun e => h2 (UInt8.toNat_inj.1 e)
    simp [vr]; omega
  | c :: d :: r, ha, hl, _ => by
    simp only [List.all_cons, Bool.and_eq_true] at ha
    have ih := vr_lo (d :: r) (by simp [ha.2]) (fun x hx => hl x (by rw [List.getLast?_cons_cons]; exact hx)) (by simp)
    rw [vr]
    simp only [List.length_cons, Nat.add_sub_cancel] at ih ⊢
    rw [Nat.pow_succ]; omega
theorem rd_vr : ∀ (f : Nat) (r : List UInt8), r.all dig = true → ((∀ c, r.getLast? = some c → c ≠ 48) ∨ r.length = 1) → r ≠ [] → r.length ≤ f → rd f (vr r) = r
  | 0, r, _, _, hn, hf => by
    have : r = [] := List.eq_nil_of_length_eq_zero (by omega)
    exact absurd this hn
  | f + 1, [], _, _, hn, _ => absurd rfl hn
  | f + 1, [c], ha, _, _, _ => by
    simp at ha
    have h1 := dig_range ha
    rw [rd]
    have h2 : vr [c] = c.toNat - 48 := by simp [vr]
    rw [h2, if_pos (by omega), Nat.mod_eq_of_lt (by omega), ch_of ha]
  | f + 1, c :: d :: r, ha, hl, _, hf => by
    simp only [List.all_cons, Bool.and_eq_true] at ha
    have h1 := dig_range ha.1
    have hl' : ∀ x, (d :: r).getLast? = some x → x ≠ 48 := by
      rcases hl with hl | hl
      · intro x hx; exact hl x (by rw [List.getLast?_cons_cons]; exact hx)
      · simp at hl
    have hlo := vr_lo (d :: r) (by simp [ha.2]) hl' (by simp)
    have ih := rd_vr f (d :: r) (by simp [ha.2]) (.inl hl') (by simp) (by simp at hf ⊢; omega)
    have hp : 0 < 10 ^ ((d :: r).length - 1) := Nat.pow_pos (by omega)
    rw [rd]
    have hv : vr (c :: d :: r) = (c.toNat - 48) + 10 * vr (d :: r) := rfl
    rw [hv, if_neg (by omega)]
    have e1 : (c.toNat - 48 + 10 * vr (d :: r)) % 10 = c.toNat - 48 := by omega
    have e2 : (c.toNat - 48 + 10 * vr (d :: r)) / 10 = vr (d :: r) := by omega
    rw [e1, e2, ih, ch_of ha.1]

/-! ### the number's own digits -/
theorem natAbs_lt {n : Int} (h1 : -9223372036854775808 ≤ n) (h2 : n ≤ 9223372036854775807) : n.natAbs < 10 ^ 20 := by
  have : (10 : Nat) ^ 20 = 100000000000000000000 := by decide
  omega
theorem rdr_ne (n : Nat) : (rd 20 n).reverse ≠ [] := by simp [rd_ne]
theorem pr_head {n : Int} : (pr n).head? = some 45 ↔ n < 0 := by
  unfold pr
  by_cases h : n < 0
  · simp [h]
  · simp only [h, if_false, List.nil_append, iff_false]
    intro e
    have ha := rd_dig 20 n.natAbs
    have hm : (45 : UInt8) ∈ rd 20 n.natAbs := by
      have := List.mem_of_head? e
      simpa using this
    have := List.all_eq_true.1 ha 45 hm
    revert this; decide
theorem neg_pr {n : Int} : neg (pr n) = decide (n < 0) := by
  unfold neg
  by_cases h : n < 0
  · rw [pr_head.2 h]; simp [h]
  · have : (pr n).head? ≠ some 45 := fun e => h (pr_head.1 e)
    simp [this, h]
theorem body_pr {n : Int} : body (pr n) = (rd 20 n.natAbs).reverse := by
  unfold body
  rw [neg_pr]
  by_cases h : n < 0
  · simp [h, pr]
  · simp [h, pr]
theorem pr_length (n : Int) : 0 < (pr n).length ∧ (pr n).length ≤ 20 + (if n < 0 then 1 else 0) := by
  have h1 := rd_len 20 n.natAbs
  have h2 : 0 < (rd 20 n.natAbs).length := List.length_pos_iff.2 (rd_ne 19 _)
  unfold pr
  by_cases h : n < 0 <;> simp [h] <;> omega
theorem rd_short : ∀ (k f n : Nat), n < 10 ^ k → 0 < k → (rd f n).length ≤ k
  | 0, _, _, _, h => absurd h (by omega)
  | k + 1, 0, _, _, _ => by simp [rd]
  | k + 1, f + 1, n, h, _ => by
    rw [rd]
    split
    · simp
    · have hk : 0 < k := by
        rcases Nat.eq_zero_or_pos k with h0 | h0
        · subst h0; simp at h; omega
        · exact h0
      have := rd_short k f (n / 10) (by rw [Nat.pow_succ] at h; omega) hk
      simp; omega
theorem pr_len20 {n : Int} (h1 : -9223372036854775808 ≤ n) (h2 : n ≤ 9223372036854775807) : (pr n).length ≤ 20 := by
  have : (10 : Nat) ^ 19 = 10000000000000000000 := by decide
  have h := rd_short 19 20 n.natAbs (by omega) (by omega)
  unfold pr
  by_cases h : n < 0 <;> simp [h] <;> omega
theorem all_rev {l : List UInt8} : l.reverse.all dig = l.all dig := by simp
theorem bad_pr {n : Int} (h1 : -9223372036854775808 ≤ n) (h2 : n ≤ 9223372036854775807) : bad (pr n) = false := by
  unfold bad
  rw [body_pr, neg_pr]
  have ha := rd_dig 20 n.natAbs
  have hl := rd_last 19 n.natAbs (natAbs_lt h1 h2)
  have hne := rd_ne 19 n.natAbs
  have e1 : (rd 20 n.natAbs).reverse.isEmpty = false := by simp [hne]
  rw [e1, all_rev, ha]
  simp only [Bool.not_true, Bool.false_or, List.head?_reverse, List.length_reverse]
  cases hc : (rd 20 n.natAbs).getLast? with
  | none => simp
  | some c =>
    by_cases hc48 : c = 48
    · have h0 := hl c hc hc48
      have : n = 0 := by omega
      subst this
      have e0 : (rd 20 0).length = 1 := by decide
      have e1 : (rd 20 (Int.natAbs 0)).length = 1 := e0
      rw [e1]; simp
    · simp [hc48]
theorem parse_pr {n : Int} (h1 : -9223372036854775808 ≤ n) (h2 : n ≤ 9223372036854775807) : parse (pr n) = (n, 0) := by
  have hv : val (body (pr n)) = n.natAbs := by
    rw [body_pr]; unfold val; rw [List.reverse_reverse]; exact vr_rd 19 _ (natAbs_lt h1 h2)
  unfold parse
  rw [bad_pr h1 h2, hv, neg_pr]
  unfold bound
  by_cases h : n < 0
  · simp only [h, decide_true, if_true]
    rw [if_neg (by simp), if_neg (by omega)]; congr 1; omega
  · simp only [h, decide_false]
    rw [if_neg (by simp), if_neg (by simp; omega)]; simp; omega
/-- what is read is what would be printed -/
theorem pr_parse {s : List UInt8} {x : Int} (h : parse s = (x, 0)) : pr x = s ∧ -9223372036854775808 ≤ x ∧ x ≤ 9223372036854775807 := by
  unfold parse at h
  by_cases hb : bad s = true
  · rw [if_pos hb] at h; simp at h
  · rw [if_neg hb] at h
    by_cases hg : bound (neg s) < val (body s)
    · rw [if_pos hg] at h; simp at h
    · rw [if_neg hg] at h
      simp only [Prod.mk.injEq, and_true] at h
      have hb' : bad s = false := by simpa using hb
      unfold bad at hb'
      simp only [Bool.or_eq_false_iff, Bool.not_eq_false', Bool.and_eq_false_iff] at hb'
      obtain ⟨⟨hne, hall⟩, hz⟩ := hb'
      have hne' : body s ≠ [] := by simpa using hne
      have hrev : (body s).reverse.all dig = true := by rw [all_rev]; exact hall
      have hlast : (∀ c, (body s).reverse.getLast? = some c → c ≠ 48) ∨ (body s).reverse.length = 1 := by
        rcases hz with hz | hz
        · left
          intro c hc e
          rw [List.getLast?_reverse] at hc
          subst e; rw [hc] at hz; simp at hz
        · right
          have : 0 < (body s).length := List.length_pos_iff.2 hne'
          have hz1 := hz.1
          simp at hz1
          rw [List.length_reverse]; omega
      have hlen : (body s).length ≤ 20 := by
        rcases hlast with hl | hl
        · have hlo := vr_lo (body s).reverse hrev hl (by simpa using hne')
          have hv : vr (body s).reverse ≤ 9223372036854775808 := by
            have : val (body s) ≤ bound (neg s) := by omega
            unfold bound at this
            unfold val at this
            split at this <;> omega
          rcases Nat.lt_or_ge 20 (body s).length with hgt | hle
          · have : (10 : Nat) ^ 20 ≤ 10 ^ ((body s).reverse.length - 1) := Nat.pow_le_pow_right (by omega) (by rw [List.length_reverse]; omega)
            have e : (10 : Nat) ^ 20 = 100000000000000000000 := by decide
            omega
          · exact hle
        · rw [List.length_reverse] at hl; omega
      have hrd := rd_vr 20 (body s).reverse hrev hlast (by simpa using hne') (by rw [List.length_reverse]; exact hlen)
      have hrd' : (rd 20 (val (body s))).reverse = body s := by
        unfold val; rw [hrd, List.reverse_reverse]
      have hbd : val (body s) ≤ bound (neg s) := by omega
      by_cases hn : neg s = true
      · rw [if_pos hn] at h
        have hs : s = 45 :: body s := by
          unfold body; rw [if_pos hn]
          unfold neg at hn
          cases s with
          | nil => simp at hn
          | cons c l => simp at hn; simp [hn]
        have hpos : 0 < val (body s) := by
          rcases hz with hz | hz
          · have hl : ∀ c, (body s).reverse.getLast? = some c → c ≠ 48 := by
              intro c hc e
              rw [List.getLast?_reverse] at hc
              subst e; rw [hc] at hz; simp at hz
            have hlo := vr_lo (body s).reverse hrev hl (by simpa using hne')
            have : 0 < 10 ^ ((body s).reverse.length - 1) := Nat.pow_pos (by omega)
            unfold val; omega
          · rw [hn] at hz; simp at hz
        unfold bound at hbd; rw [if_pos hn] at hbd
        refine ⟨?_, by omega, by omega⟩
        subst h
        unfold pr
        rw [if_pos (by omega)]
        have : (-(val (body s) : Int)).natAbs = val (body s) := by omega
        rw [this, hrd']; exact hs.symm
      · rw [if_neg hn] at h
        have hs : body s = s := by unfold body; rw [if_neg hn]
        unfold bound at hbd; rw [if_neg hn] at hbd
        refine ⟨?_, by omega, by omega⟩
        subst h
        unfold pr
        rw [if_neg (by omega)]
        have : ((val (body s) : Nat) : Int).natAbs = val (body s) := by omega
        rw [this, hrd', hs]; rfl
theorem parse_err {s : List UInt8} (h : (parse s).2 ≠ 0) : (parse s).1 = 0 := by
  unfold parse at h ⊢
  split
  · rfl
  · split
    · rfl
    · rw [if_neg (by assumption), if_neg (by assumption)] at h; simp at h
theorem parse_range (s : List UInt8) : -9223372036854775808 ≤ (parse s).1 ∧ (parse s).1 ≤ 9223372036854775807 := by
  by_cases h : (parse s).2 = 0
  · exact (pr_parse (s := s) (x := (parse s).1) (by rw [← h])).2
  · rw [parse_err h]; omega
theorem parse_code (s : List UInt8) : (parse s).2 = 0 ∨ (parse s).2 = 2 ∨ (parse s).2 = 5 := by
  unfold parse; split
  · simp
  · split <;> simp

/-! ### at a place of a text -/
theorem run_digs : ∀ (d r : List UInt8), d.all dig = true → (∀ c, r.head? = some c → dig c = false) → run (d ++ r) = d.length
  | [], [], _, _ => rfl
  | [], c :: r, _, h => by simp [run, h c rfl]
  | c :: d, r, ha, h => by
    simp only [List.all_cons, Bool.and_eq_true] at ha
    simp only [List.cons_append, run, ha.1, if_true, List.length_cons]
    rw [run_digs d r ha.2 h]
theorem row_pr (n : Int) (r : List UInt8) (h : ∀ c, r.head? = some c → dig c = false) : row (pr n ++ r) = (pr n).length := by
  have hd := rd_dig 20 n.natAbs
  rw [← all_rev] at hd
  have hne : pr n ≠ [] := List.ne_nil_of_length_pos (pr_length n).1
  have hneg : neg (pr n ++ r) = decide (n < 0) := by
    rw [← neg_pr]; unfold neg
    cases hp : pr n with
    | nil => exact absurd hp hne
    | cons c l => rfl
  unfold row
  rw [hneg]
  by_cases hn : n < 0
  · simp only [hn, decide_true, if_true]
    have : pr n = 45 :: (rd 20 n.natAbs).reverse := by unfold pr; simp [hn]
    rw [this]
    simp only [List.cons_append, List.tail_cons, List.length_cons]
    rw [run_digs _ r hd h]; omega
  · simp only [hn, decide_false]
    have : pr n = (rd 20 n.natAbs).reverse := by unfold pr; simp [hn]
    rw [this, if_neg (by simp), run_digs _ r hd h]
theorem scan_pr {n : Int} (h1 : -9223372036854775808 ≤ n) (h2 : n ≤ 9223372036854775807) (s : List UInt8) : scan (pr n ++ 120 :: s) 0 = (n, ((pr n).length : Int), 0) := by
  have hr := row_pr n (120 :: s) (by intro c hc; simp at hc; subst hc; decide)
  unfold scan
  rw [if_neg (by simp only [List.length_append]; omega)]
  simp only [Int.toNat_zero, List.drop_zero, hr, List.take_left, parse_pr h1 h2]
  simp

end Nm
end Go.Proofs.Ythbpkmmnoeikoaa

/-
  A range over a function value whose iterator takes steps of its own between two rounds (it writes cells of its own, or a variable of the caller's): one law for the loop, over the iterator's contract. Condition: the loop stands in no other such loop's body.
-/
namespace Go.Proofs.Ythbpkmmnoeikoaa
open Go Go.RowKit

/-- what an iterator's value does: each step of its own leads from what holds behind a round to what holds ahead of the next one -/
def SeqOf {α : Type} (F : Fence) (n : Nat) (P : Program) (g : Nat) (lb : Array Value) (encs : α → Array Value) (Kp : World → World → Prop) (Ok : List α → α → Prop)
    (St : List α → α → World → World → Prop) (En : World → World → Prop) (S Sp : List α → Prop) (w : World) : Prop :=
  ∀ (l : Nat) (J : List α → World → Prop) (J1 : List α → α → World → Prop) (Jx : List α → World → Prop) (W : World), Below w.heap.size w W →
    (∀ pre x A B, J pre A → Ok pre x → St pre x A B → J1 pre x B) → (∀ pre A B, J pre A → En A B → J pre B) →
    (∀ pre x W1, J1 pre x W1 → Ok pre x → YieldAt F (n - 1) P l (encs x) W1 fun e W' =>
      (e = .returned (.bool true) ∧ J (pre ++ [x]) W' ∧ Kp W1 W') ∨ (e = .returned (.bool false) ∧ Jx (pre ++ [x]) W')) →
    J [] W →
    CallsIn F n P g (#[.func (.yield l) #[] #[]] ++ lb) W fun e W' => (∃ v, e = .returned v) ∧ ((∃ xs, S xs ∧ J xs W') ∨ (∃ pre, Sp pre ∧ Jx pre W'))

variable {F : Fence} {n : Nat} {P : Program}

/-- what is no cells, and lies at B or beyond, lies as it lay -/
def KeepsNo (B : Nat) (A A' : World) : Prop := ∀ (k : Nat) (o : Obj), B ≤ k → A.heap[k]? = some o → o.isCells = false → A'.heap[k]? = some o

theorem wpIn_rangeFunc_of {α : Type} {g : Operand} {ps : Array Tmp} {assign body : Code} {Q : Exit → Act → World → Prop} {a : Act} {w : World}
    (hro : F.round = none) (h1 : 1 ≤ n) {gf : Nat} {lb : Array Value} (hg : a.eval g = .func (.func gf) #[] lb) (hFg : F.fn gf) (eg : ∀ args w, (callFunc gf args).run P w = .ok (.enter gf args) w)
    {encs : α → Array Value} {Kp : World → World → Prop} {Ok : List α → α → Prop} {St : List α → α → World → World → Prop} {En : World → World → Prop} {S Sp : List α → Prop} {w0 : World} (hseq : SeqOf F (n - 1) P gf lb encs Kp Ok St En S Sp w0)
    (hSt : ∀ pre x A B, St pre x A B → KeepsNo w.heap.size A B) (hEn : ∀ A B, En A B → KeepsNo w.heap.size A B)
    (hKt : ∀ {A B C : World}, Kp A B → Kp B C → Kp A C) (hKb : ∀ (W : World) (l : Nat) (o o' : Obj), w.heap.size ≤ l → W.heap[l]? = some o → o.isCells = false → o.isWalk = false → Kp W (W.putObj l o')) (hb0 : Below w0.heap.size w0 w) (hps : ∀ x, (encs x).size = ps.size)
    (I : List α → World → Prop) (I1 : List α → α → World → Prop) (Ix : Code → List α → World → Prop) (hI : OwnFrom w.heap.size I) (hI1 : ∀ x, OwnFrom w.heap.size (fun pre => I1 pre x)) (hIx : ∀ c, OwnFrom w.heap.size (Ix c))
    (hstep : ∀ pre x A B, I pre A → Ok pre x → St pre x A B → I1 pre x B) (hend : ∀ pre A B, I pre A → En A B → I pre B) (h0 : I [] w) (a₁ : α → Act)
    (hassign : ∀ (l : Nat) (x : α) (W : World) (K : Act → World → Prop), K (a₁ x) W →
      assign.wpIn (F.inRound l) (n - 1 - 1) P (Exit.then K (fun _ _ _ => False)) { tmps := (ps.zip (encs x)).foldl (fun t (p, v) => t.setIfInBounds p v) a.tmps, defers := [] } W)
    (hbody : ∀ (l : Nat) (pre : List α) (x : α) (W : World), I1 pre x W → Ok pre x → body.wpIn (F.inRound l) (n - 1 - 1) P (ownPostG w.heap.size Kp I Ix (pre ++ [x]) W) (a₁ x) W)
    (hdone : ∀ (D : Nat) (xs : List α) (W : World), w.heap.size ≤ D → S xs → I xs W → W.heap[D]? = some (.deferred (some [])) → Q .normal { a with defers := { target := .collected D, args := #[] } :: a.defers } W)
    (hstop : ∀ (D : Nat) (c : Code) (pre : List α) (W : World), w.heap.size ≤ D → Sp pre → Ix c pre W → W.heap[D]? = some (.deferred (some [])) → c.wpIn F n P Q { a with defers := { target := .collected D, args := #[] } :: a.defers } W) :
    (Code.rangeFunc g ps assign body).wpIn F n P Q a w := by
  refine wpIn_rangeFunc ?_
  intro fn hfn
  rw [hro]
  obtain ⟨rec, hrec⟩ : ∃ rec : LoopState → Option Code → Loop, rec = fun st pe => { state := st, pending := pe, fn, tmps := a.tmps, params := ps, assign, body, defers := w.heap.size } := ⟨_, rfl⟩
  obtain ⟨W1, hW1⟩ : ∃ W1, (w.alloc (.deferred (some []))).alloc (.loop (rec .ready none)) = W1 := ⟨_, rfl⟩
  have hL1 : W1.heap[w.heap.size + 1]? = some (.loop (rec .ready none)) := by
    rw [← hW1]; have := World.alloc_heap_new (w.alloc (.deferred (some []))) (.loop (rec .ready none)); rwa [World.size_alloc] at this
  have hK1 : W1.heap[w.heap.size]? = some (.deferred (some [])) := by
    rw [← hW1]; exact (Below.heap_alloc _ _ _ (by simp)).trans (World.alloc_heap_new w _)
  have hI1' : I [] W1 := by rw [← hW1]; exact hI.alloc _ (hI.alloc _ h0)
  have hb1 : Below w0.heap.size w0 W1 := by
    rw [← hW1]; exact hb0.trans ((((Below.refl _ w).alloc (Nat.le_refl _) _).alloc (by simp) _).mono hb0.size)
  refine ⟨w.heap.size + 1, [{ target := .collected w.heap.size, args := #[] }], W1, { target := .fn (.func gf) lb, args := #[.func (.yield (w.heap.size + 1)) #[] #[]] }, W1, gf,
    #[.func (.yield (w.heap.size + 1)) #[] #[]] ++ lb, W1, ?_, ?_, ?_, ?_, fun _ => h1, ?_⟩
  · rw [← hW1, hrec]; exact run_enterLoop_outer _ _ _ _ _
  · simp only [resolve, hg]
    simp [go_sem]
  · intro f' hf'; simp [Target.leads] at hf'; subst hf'; exact hFg
  · simp [invoke, go_sem, eg]
  · refine (hseq (w.heap.size + 1)
      (fun pre W => I pre W ∧ W.heap[w.heap.size + 1]? = some (.loop (rec .ready none)) ∧ W.heap[w.heap.size]? = some (.deferred (some [])))
      (fun pre x W => I1 pre x W ∧ W.heap[w.heap.size + 1]? = some (.loop (rec .ready none)) ∧ W.heap[w.heap.size]? = some (.deferred (some [])))
      (fun pre W => ∃ c, Ix c pre W ∧ W.heap[w.heap.size + 1]? = some (.loop (rec .done (some c))) ∧ W.heap[w.heap.size]? = some (.deferred (some [])))
      W1 hb1
      (fun pre x A B hs hok hst => ⟨hstep pre x A B hs.1 hok hst, hSt pre x A B hst _ _ (by omega) hs.2.1 rfl, hSt pre x A B hst _ _ (Nat.le_refl _) hs.2.2 rfl⟩)
      (fun pre A B hs hst => ⟨hend pre A B hs.1 hst, hEn A B hst _ _ (by omega) hs.2.1 rfl, hEn A B hst _ _ (Nat.le_refl _) hs.2.2 rfl⟩)
      ?_ ⟨hI1', hL1, hK1⟩).mono ?_
    · rintro pre x W ⟨hi, hl, hk⟩ hok
      have hlt : w.heap.size + 1 < W.heap.size := (Array.getElem?_eq_some_iff.1 hl).1
      have hy := run_yield (P := P) (args := encs x) hl (by rw [hrec]; exact hps x)
      rw [hrec] at hy
      refine ⟨fn, _, assign, body, hy, roundIn_of_wpIn hfn (hassign _ x W _ ⟨_, run_beginRound hl (by rw [hrec]), ?_⟩)⟩
      have hl2 : (W.putObj (w.heap.size + 1) (.loop { rec .ready none with state := .busy })).heap[w.heap.size + 1]? = some (.loop { rec .ready none with state := .busy }) := World.putObj_heap_same hlt
      have hk2 : (W.putObj (w.heap.size + 1) (.loop { rec .ready none with state := .busy })).heap[w.heap.size]? = some (.deferred (some [])) := (World.putObj_heap_other (by omega)).trans hk
      have hw2 : Kp W (W.putObj (w.heap.size + 1) (.loop { rec .ready none with state := .busy })) := hKb _ _ _ _ (by omega) hl rfl rfl
      refine wpIn_mono (hbody _ pre x _ ((hI1 x).putObj (s := pre) _ hi (by omega) hl rfl) hok) ?_
      have fin : ∀ (jump : Option Code) (W3 : World), KeepsFrom w.heap.size (W.putObj (w.heap.size + 1) (.loop { rec .ready none with state := .busy })) W3 →
          (Instr.endRound (w.heap.size + 1) jump).run P W3 = .ok (.bool jump.isNone) (W3.putObj (w.heap.size + 1) (.loop (rec (if jump.isNone then .ready else .done) jump))) ∧
          W3.heap[w.heap.size + 1]? = some (.loop { rec .ready none with state := .busy }) ∧
          (W3.putObj (w.heap.size + 1) (.loop (rec (if jump.isNone then .ready else .done) jump))).heap[w.heap.size + 1]? = some (.loop (rec (if jump.isNone then .ready else .done) jump)) ∧
          (W3.putObj (w.heap.size + 1) (.loop (rec (if jump.isNone then .ready else .done) jump))).heap[w.heap.size]? = some (.deferred (some [])) := fun jump W3 hk3 => by
        have hl3 := hk3.same _ _ (by omega) hl2 rfl
        have := run_endRound (P := P) jump hl3
        rw [hrec] at this ⊢
        exact ⟨this, by rw [hrec] at hl3; exact hl3, World.putObj_heap_same (Array.getElem?_eq_some_iff.1 hl3).1, (World.putObj_heap_other (by omega)).trans (hk3.same _ _ (Nat.le_refl _) hk2 rfl)⟩
      rintro e a3 W3 hp
      cases e with
      | normal =>
        obtain ⟨hk3, hkp3, hi3⟩ := hp
        obtain ⟨hr, hl3, hl4, hk4⟩ := fin none W3 hk3
        exact ⟨_, _, hr, .inl ⟨rfl, ⟨hI.putObj _ hi3 (by omega) hl3 rfl, hl4, hk4⟩, hKt (hKt hw2 hkp3) (hKb _ _ _ _ (by omega) hl3 rfl rfl)⟩⟩
      | ret =>
        obtain ⟨hk3, hi3⟩ := hp
        obtain ⟨hr, hl3, hl4, hk4⟩ := fin (some .ret) W3 hk3
        exact ⟨_, _, hr, .inr ⟨rfl, .ret, (hIx _).putObj _ hi3 (by omega) hl3 rfl, hl4, hk4⟩⟩
      | exit id =>
        obtain ⟨hk3, hi3⟩ := hp
        obtain ⟨hr, hl3, hl4, hk4⟩ := fin (some (.exit id)) W3 hk3
        exact ⟨_, _, hr, .inr ⟨rfl, .exit id, (hIx _).putObj _ hi3 (by omega) hl3 rfl, hl4, hk4⟩⟩
      | goto t =>
        obtain ⟨hk3, hi3⟩ := hp
        obtain ⟨hr, hl3, hl4, hk4⟩ := fin (some (.goto t)) W3 hk3
        exact ⟨_, _, hr, .inr ⟨rfl, .goto t, (hIx _).putObj _ hi3 (by omega) hl3 rfl, hl4, hk4⟩⟩
      | panic ch => exact hp.elim
      | outgrown => exact hp.elim
    · rintro e W2 ⟨⟨v, rfl⟩, (⟨xs, hS, hi, hl, hk⟩ | ⟨pre, hSp, c, hi, hl, hk⟩)⟩
      · exact ⟨none, _, by have := run_endLoop (P := P) hl (by rw [hrec]; simp); rw [hrec] at this; exact this, hdone _ xs _ (Nat.le_refl _) hS (hI.putObj _ hi (by omega) hl rfl) ((World.putObj_heap_other (by omega)).trans hk)⟩
      · exact ⟨some c, _, by have := run_endLoop (P := P) hl (by rw [hrec]; simp); rw [hrec] at this; exact this, hstop _ c pre _ (Nat.le_refl _) hSp ((hIx c).putObj _ hi (by omega) hl rfl) ((World.putObj_heap_other (by omega)).trans hk)⟩

end Go.Proofs.Ythbpkmmnoeikoaa

/-
  slices.Reverse at bytes: the cells of a slice of the call's own hold the bytes in the other order. Condition: they are fewer than 2^63.
-/
namespace Go.Proofs.Ythbpkmmnoeikoaa
open Go.RowKit Go.Lib Go.Sort

/-- a byte as a value -/
def encB (c : UInt8) : Value := .int .u8 (c.toNat : Int)

set_option maxHeartbeats 1600000 in
set_option maxRecDepth 1000000 in
theorem reverse_arr (blk off cap : Nat) (d : Array UInt8) (w : World) (hH : Holds encB w blk off d) (hsz : d.size ≤ 9223372036854775807) :
    Calls Try.prog 42 #[.slice (some ⟨blk, off, none⟩) d.size cap] w fun e w' => e = .returned (.tuple #[]) ∧ ∃ n, w' = putRow encB (Sort.ahead w n) blk off d.reverse := by
  go_enter Try.func42, Try.ntmps42
  go_wp2
  go_loopg [2, 3] d.size (fun k s2 s3 wr => ∃ (i jn : Nat) (jz : Int) (dk : Array UInt8) (n : Nat), s2 = .int .i64 i ∧ s3 = .int .i64 jz ∧ ((i : Int) < jz → jz = jn ∧ jn < d.size) ∧ (¬ (i : Int) < jz → ¬ i < jn) ∧ jn - i ≤ k ∧
    dk.size = d.size ∧ wr = putRow encB (Sort.ahead w n) blk off dk ∧ reverseLoop i jn dk = reverseLoop 0 (d.size - 1) d)
  case atStart => exact ⟨0, d.size - 1, (d.size : Int) - 1, d, 0, rfl, rfl, fun h => ⟨by omega, by omega⟩, fun h => by omega, by omega, rfl, (putRow_self encB w blk off d hH).symm, rfl⟩
  case round =>
    obtain ⟨i, jn, jz, dk, n, rfl, rfl, h1, h2, hk, hds, hwr, heq⟩ := hrel
    by_cases hlt : (i : Int) < jz
    · obtain ⟨rfl, hjn⟩ := h1 hlt
      have hij : i < jn := by omega
      have hHk : Holds encB wr blk off dk := by rw [hwr]; exact holds_putRow encB _ blk off d dk (holds_ahead encB w n blk off d hH) hds
      obtain ⟨ci, fi⟩ := hHk i (by omega)
      obtain ⟨cj, fj⟩ := hHk jn (by omega)
      have A : Aside (wr = putRow encB (Sort.ahead w n) blk off dk) := hwr
      clear hwr hHk hH h1 h2
      obtain ⟨x, hx⟩ : ∃ x : Int, Value.int .u8 x = encB dk[i]! := ⟨_, rfl⟩
      obtain ⟨y, hy⟩ : ∃ y : Int, Value.int .u8 y = encB dk[jn]! := ⟨_, rfl⟩
      rw [← hx] at ci
      rw [← hy] at cj
      have HX := Lib.hid hx
      have HY := Lib.hid hy
      clear hx hy
      go_wp2_with fail
      go_region
      go_wp2
      go_roundg (jn - 1 - (i + 1))
      case measure => omega
      case rel =>
        rw [reverseLoop, if_pos hij] at heq
        exact ⟨i + 1, jn - 1, (jn : Int) - 1, swp dk i jn, n + 1, by simp, rfl, fun h => ⟨by omega, by omega⟩, fun h => by omega, Nat.le_refl _, by rw [size_swp]; exact hds,
          swap_world encB (by omega) (by omega) A.out HY.out HX.out, heq⟩
    · have hnot := h2 hlt
      go_wp2
      go_end0
      refine ⟨rfl, n, ?_⟩
      rw [reverseLoop, if_neg hnot] at heq
      rw [← Lib.reverseLoop_reverse, ← heq]

theorem putRow_heap {α : Type} [Inhabited α] (enc : α → Value) (w : World) (g off k : Nat) (d : Array α) (h : k ≠ g) : (putRow enc w g off d).heap[k]? = w.heap[k]? := by
  unfold putRow mapBlock
  simp only [Array.getElem?_modify]
  rw [if_neg (fun e => h e.symm)]
theorem putRow_heap_same {α : Type} [Inhabited α] (enc : α → Value) (w : World) (g off : Nat) (d : Array α) {cur : Array Value} {e : TypeId} {fz : Nat × Nat} (h : w.heap[g]? = some (.cells cur e fz)) :
    (putRow enc w g off d).heap[g]? = some (.cells (putCells enc off d cur) e fz) := by
  unfold putRow mapBlock
  simp [Array.getElem?_modify, h, onCells]
theorem putRow_grown {α : Type} [Inhabited α] (enc : α → Value) (w : World) (g n off : Nat) (d : Array α) : w.grownBy (putRow enc (Sort.ahead w n) g off d) (some g) :=
  ⟨rfl, rfl, rfl, by unfold putRow mapBlock Sort.ahead; simp, fun k _ hk => putRow_heap enc (Sort.ahead w n) g off k d (fun e => hk (by rw [e]))⟩

/-- the bytes of a slice of the call's own, in the other order -/
theorem reverse_own (base : Nat) (v : Value) (l : List UInt8) (w : World) (h : w.ownsRow base 5 1 v l.length (l.map encB)) (hl : 0 < l.length) :
    Calls Try.prog 42 #[v] w fun e w' => e = .returned (.tuple #[]) ∧ w'.ownsRow base 5 1 v l.length (l.reverse.map encB) ∧ w.grownBy w' v.ownBlock := by
  obtain ⟨hlen, hcase⟩ := h
  rcases hcase with ⟨_, h0⟩ | ⟨g, cap, cur, rfl, hb, hg, hn, hm, hcs, htk⟩
  · simp at h0; subst h0; simp at hl
  · have hcur : ∀ j, j < l.length → cur[j]? = some (encB l.toArray[j]!) := by
      intro j hj
      have h1 : (cur.toList.take l.length)[j]? = (l.map encB)[j]? := by
        have := congrArg (fun z => z[j]?) htk
        simpa using this
      rw [List.getElem?_take, if_pos hj] at h1
      have h2 : cur[j]? = (l.map encB)[j]? := by simpa using h1
      rw [h2]
      simp [hj]
    have hH : Holds encB w g 0 l.toArray := by
      intro j hj
      have hj' : j < l.length := by simpa using hj
      refine ⟨?_, by simp [World.frozen?, hg]⟩
      rw [cell_of_row w g (0 + j) cur 5 (0, 0) hg, Nat.zero_add]
      exact hcur j hj'
    have hc := reverse_arr g 0 cap l.toArray w hH (by unfold maxLen at hm; simp; omega)
    rw [List.size_toArray] at hc
    refine hc.mono ?_
    rintro e w' ⟨rfl, n, rfl⟩
    refine ⟨rfl, ⟨by simp, .inr ⟨g, cap, putCells encB 0 l.toArray.reverse cur, rfl, hb, putRow_heap_same encB (Sort.ahead w n) g 0 _ hg, hn, hm, by simp [putCells, hcs], ?_⟩⟩, ?_⟩
    · apply List.ext_getElem?
      intro k
      simp only [Nat.mul_one, List.getElem?_take, Array.getElem?_toList, List.getElem?_map]
      by_cases hk : k < l.length
      · rw [if_pos hk]
        unfold putCells
        rw [Array.getElem?_mapIdx, hcur k hk]
        have hk2 : k < l.reverse.length := by simpa using hk
        simp [hk]
      · rw [if_neg hk, List.getElem?_eq_none (by simp; omega)]; rfl
    · exact putRow_grown encB w g n 0 _

/-- bytes of the call's own, as a string -/
theorem run_string_own {P : Program} (w : World) (base e src dst : TypeId) (hs : P.underlying src = some (.slice e)) (he : P.underlying e = some (.int .u8)) (hd : P.underlying dst = some .string)
    (v : Value) (l : List UInt8) (h : w.ownsRow base e 1 v l.length (l.map encB)) : (convert src dst v).run P w = .ok (str l) w := by
  obtain ⟨hlen, hcase⟩ := h
  rcases hcase with ⟨rfl, h0⟩ | ⟨g, cap, cur, rfl, hb, hg, hn, hm, hcs, htk⟩
  · simp at h0; subst h0
    rw [run_convert_bytes_nil w src e hs he 0 0 dst hd]; rfl
  · have hc := run_convert_bytes_arg w src e hs he g 0 l.length cap (l.map fun c => (c.toNat : Int)) (by simp) (fun i hi => by
      rw [cell_of_row w g (0 + i) cur e (0, 0) hg, Nat.zero_add]
      have h1 : (cur.toList.take l.length)[i]? = (l.map encB)[i]? := by
        have := congrArg (fun z => z[i]?) htk
        simpa using this
      rw [List.getElem?_take, if_pos hi] at h1
      have h2 : cur[i]? = (l.map encB)[i]? := by simpa using h1
      rw [h2]
      simp [hi, encB]) dst hd
    rw [hc]
    have e1 : strOfNums (l.map fun c => (c.toNat : Int)) = ⟨l.toArray⟩ := by
      unfold strOfNums
      congr 2
      rw [List.map_map]
      have : (fun n : Int => UInt8.ofNat n.toNat) ∘ (fun c : UInt8 => (c.toNat : Int)) = id := by
        funext c; simp
      rw [this, List.map_id]
    rw [e1]; rfl

end Go.Proofs.Ythbpkmmnoeikoaa
