/-
  UTF-8: what it means that a code stands at a list's beginning, said twice (by the first byte's class; by the code's own bytes), and that the two are one. No program text.
-/
import Derived.WalkKit
namespace Go.Proofs.Ythbpkmmnoeikoaa.Uf
set_option linter.unusedVariables false
set_option linter.unusedSimpArgs false
abbrev F := List UInt8

def tl (x : UInt8) : Bool := decide (128 ≤ x.toNat ∧ x.toNat < 192)
def code (c : Nat) : Bool := decide (c < 55296 ∨ 57343 < c ∧ c ≤ 1114111)
def long (c : Nat) : Nat := if c < 128 then 1 else if c < 2048 then 2 else if c < 65536 then 3 else 4
def first (b : UInt8) : Nat × Nat :=
  if b.toNat < 128 then (1, b.toNat) else if 192 ≤ b.toNat ∧ b.toNat < 224 then (2, b.toNat % 32) else if 224 ≤ b.toNat ∧ b.toNat < 240 then (3, b.toNat % 16)
  else if 240 ≤ b.toNat ∧ b.toNat < 248 then (4, b.toNat % 8) else (0, 0)
def acc (c : Nat) (l : F) : Nat := l.foldl (fun c x => c * 64 + x.toNat % 64) c
/-- the code that stands at the beginning, and how many bytes it has -/
def get : F → Option (Nat × Nat)
  | [] => none
  | b :: r =>
    let p := first b
    if p.1 = 0 ∨ r.length + 1 < p.1 then none
    else if (r.take (p.1 - 1)).all tl = true ∧ long (acc p.2 (r.take (p.1 - 1))) = p.1 ∧ code (acc p.2 (r.take (p.1 - 1))) = true then some (acc p.2 (r.take (p.1 - 1)), p.1) else none
/-- a code's bytes -/
def put (c : Nat) : F :=
  if code c = false then [] else if c < 128 then [UInt8.ofNat c] else if c < 2048 then [UInt8.ofNat (192 + c / 64), UInt8.ofNat (128 + c % 64)]
  else if c < 65536 then [UInt8.ofNat (224 + c / 4096), UInt8.ofNat (128 + c / 64 % 64), UInt8.ofNat (128 + c % 64)]
  else [UInt8.ofNat (240 + c / 262144), UInt8.ofNat (128 + c / 4096 % 64), UInt8.ofNat (128 + c / 64 % 64), UInt8.ofNat (128 + c % 64)]
def head (b : UInt8) : Nat := if 240 ≤ b.toNat then b.toNat - 240 else if 224 ≤ b.toNat then b.toNat - 224 else if 192 ≤ b.toNat then b.toNat - 192 else b.toNat
/-- by the code's own bytes: from n of them on -/
def rget (l : F) : Nat → Nat → Option (Nat × Nat)
  | 0, _ => none
  | f + 1, n => match l with
    | [] => none
    | b :: r => if n ≤ 4 ∧ n ≤ r.length + 1 then (if put (acc (head b) (r.take (n - 1))) = (b :: r).take n then some (acc (head b) (r.take (n - 1)), n) else rget l f (n + 1)) else none

theorem put_len (c : Nat) : (put c).length = if code c = false then 0 else long c := by
  unfold put long
  split
  · rfl
  · split
    · rfl
    · split
      · rfl
      · split <;> rfl
theorem byte_lt (b : UInt8) : b.toNat < 256 := b.toNat_lt
theorem ofNat_eq (n : Nat) (b : UInt8) (h : n < 256) : UInt8.ofNat n = b ↔ n = b.toNat := by
  constructor
  · rintro rfl; rw [UInt8.toNat_ofNat']; omega
  · rintro rfl; simp
theorem acc_lt (c : Nat) : ∀ (l : F), acc c l < (c + 1) * 64 ^ l.length
  | [] => by simp [acc]
  | x :: l => by
    have ih := acc_lt (c * 64 + x.toNat % 64) l
    have e : acc c (x :: l) = acc (c * 64 + x.toNat % 64) l := rfl
    rw [e, List.length_cons, Nat.pow_succ]
    have : (c * 64 + x.toNat % 64 + 1) * 64 ^ l.length ≤ ((c + 1) * 64) * 64 ^ l.length := Nat.mul_le_mul_right _ (by omega)
    have e2 : (c + 1) * 64 * 64 ^ l.length = (c + 1) * (64 ^ l.length * 64) := by rw [Nat.mul_assoc, Nat.mul_comm 64]
    omega

theorem put1 (c : Nat) (b : UInt8) : put c = [b] ↔ c < 128 ∧ c = b.toNat := by
  have hb := byte_lt b
  constructor
  · intro h
    have hl := congrArg List.length h
    rw [put_len] at hl
    unfold put at h
    split at h
    · simp at h
    · split at h
      · rename_i hc
        simp only [List.cons.injEq, and_true] at h
        rw [ofNat_eq _ _ (by omega)] at h
        exact ⟨hc, h⟩
      · split at h
        · simp at h
        · split at h <;> simp at h
  · rintro ⟨h1, h2⟩
    unfold put
    have hcode : code c = true := by unfold code; simp; omega
    rw [hcode, if_neg (by simp), if_pos h1]
    simp only [List.cons.injEq, and_true]
    rw [ofNat_eq _ _ (by omega)]; exact h2
theorem put2 (c : Nat) (b x : UInt8) : put c = [b, x] ↔ 128 ≤ c ∧ c < 2048 ∧ 192 + c / 64 = b.toNat ∧ 128 + c % 64 = x.toNat := by
  have hb := byte_lt b
  constructor
  · intro h
    unfold put at h
    split at h
    · simp at h
    · split at h
      · simp at h
      · split at h
        · rename_i h1 h2
          simp only [List.cons.injEq, and_true] at h
          rw [ofNat_eq _ _ (by omega), ofNat_eq _ _ (by omega)] at h
          exact ⟨by omega, by omega, h⟩
        · split at h <;> simp at h
  · rintro ⟨h1, h2, h3, h4⟩
    unfold put
    have hcode : code c = true := by unfold code; simp; omega
    rw [hcode, if_neg (by simp), if_neg (by omega), if_pos h2]
    simp only [List.cons.injEq, and_true]
    rw [ofNat_eq _ _ (by omega), ofNat_eq _ _ (by omega)]; exact ⟨h3, h4⟩
theorem put3 (c : Nat) (b x y : UInt8) : put c = [b, x, y] ↔ 2048 ≤ c ∧ c < 65536 ∧ code c = true ∧ 224 + c / 4096 = b.toNat ∧ 128 + c / 64 % 64 = x.toNat ∧ 128 + c % 64 = y.toNat := by
  have hb := byte_lt b
  constructor
  · intro h
    unfold put at h
    split at h
    · simp at h
    · split at h
      · simp at h
      · split at h
        · simp at h
        · split at h
          · rename_i h0 h1 h2 h3
            simp only [List.cons.injEq, and_true] at h
            rw [ofNat_eq _ _ (by omega), ofNat_eq _ _ (by omega), ofNat_eq _ _ (by omega)] at h
            exact ⟨by omega, by omega, by simpa using h0, h⟩
          · simp at h
  · rintro ⟨h1, h2, hcode, h3, h4, h5⟩
    unfold put
    rw [hcode, if_neg (by simp), if_neg (by omega), if_neg (by omega), if_pos h2]
    simp only [List.cons.injEq, and_true]
    rw [ofNat_eq _ _ (by omega), ofNat_eq _ _ (by omega), ofNat_eq _ _ (by omega)]; exact ⟨h3, h4, h5⟩
theorem put4 (c : Nat) (b x y z : UInt8) : put c = [b, x, y, z] ↔ 65536 ≤ c ∧ c ≤ 1114111 ∧ 240 + c / 262144 = b.toNat ∧ 128 + c / 4096 % 64 = x.toNat ∧ 128 + c / 64 % 64 = y.toNat ∧ 128 + c % 64 = z.toNat := by
  have hb := byte_lt b
  constructor
  · intro h
    unfold put at h
    split at h
    · simp at h
    · split at h
      · simp at h
      · split at h
        · simp at h
        · split at h
          · simp at h
          · rename_i h0 h1 h2 h3
            have hcd : c ≤ 1114111 := by
              have h0' : code c = true := by simpa using h0
              unfold code at h0'
              simp at h0'; omega
            simp only [List.cons.injEq, and_true] at h
            rw [ofNat_eq _ _ (by omega), ofNat_eq _ _ (by omega), ofNat_eq _ _ (by omega), ofNat_eq _ _ (by omega)] at h
            exact ⟨by omega, hcd, h⟩
  · rintro ⟨h1, h2, h3, h4, h5, h6⟩
    unfold put
    have hcode : code c = true := by unfold code; simp; omega
    rw [hcode, if_neg (by simp), if_neg (by omega), if_neg (by omega), if_neg (by omega)]
    simp only [List.cons.injEq, and_true]
    rw [ofNat_eq _ _ (by omega), ofNat_eq _ _ (by omega), ofNat_eq _ _ (by omega), ofNat_eq _ _ (by omega)]; exact ⟨h3, h4, h5, h6⟩

theorem no2 (b : UInt8) (r : F) (h : put (acc (head b) (r.take 1)) = (b :: r).take 2) : r.length = 0 ∨ ∃ x t, r = x :: t ∧ 128 ≤ head b * 64 + x.toNat % 64 ∧ head b * 64 + x.toNat % 64 < 2048 ∧ 192 + head b = b.toNat ∧ 128 + x.toNat % 64 = x.toNat := by
  cases r with
  | nil => exact .inl rfl
  | cons x t =>
    right
    have e : acc (head b) ((x :: t).take 1) = head b * 64 + x.toNat % 64 := rfl
    rw [e] at h
    have h2 := (put2 _ _ _).1 h
    exact ⟨x, t, rfl, h2.1, h2.2.1, by omega, by omega⟩
theorem rget_nil (f n : Nat) : rget [] f n = none := by cases f <;> rfl
theorem rget_no (b : UInt8) (r : F) : ∀ (f n : Nat), (∀ m, n ≤ m → m ≤ 4 → m ≤ r.length + 1 → put (acc (head b) (r.take (m - 1))) ≠ (b :: r).take m) → rget (b :: r) f n = none
  | 0, _, _ => rfl
  | f + 1, n, h => by
    unfold rget
    dsimp only
    split
    · rename_i hc
      rw [if_neg (h n (Nat.le_refl _) hc.1 hc.2)]
      exact rget_no b r f (n + 1) (fun m hm => h m (by omega))
    · rfl
theorem rget_go (b : UInt8) (r : F) (f n : Nat) (h : n ≤ r.length + 1 → put (acc (head b) (r.take (n - 1))) ≠ (b :: r).take n) (hn : n ≤ 4) : rget (b :: r) (f + 1) n = if n ≤ r.length + 1 then rget (b :: r) f (n + 1) else none := by
  conv => lhs; unfold rget
  dsimp only
  by_cases hc : n ≤ r.length + 1
  · rw [if_pos ⟨hn, hc⟩, if_pos hc, if_neg (h hc)]
  · rw [if_neg (fun q => hc q.2), if_neg hc]
theorem rget_at (b : UInt8) (r : F) (f n : Nat) (hn : n ≤ 4) (hc : n ≤ r.length + 1) (h : ∀ m, n < m → m ≤ 4 → m ≤ r.length + 1 → put (acc (head b) (r.take (m - 1))) ≠ (b :: r).take m) :
    rget (b :: r) (f + 1) n = if put (acc (head b) (r.take (n - 1))) = (b :: r).take n then some (acc (head b) (r.take (n - 1)), n) else none := by
  conv => lhs; unfold rget
  dsimp only
  rw [if_pos ⟨hn, hc⟩]
  split
  · rfl
  · exact rget_no b r f (n + 1) (fun m hm => h m (by omega))

theorem len_ge1 {r : F} (h : 2 ≤ r.length + 1) : ∃ x t, r = x :: t := by
  cases r with
  | nil => simp at h
  | cons x t => exact ⟨x, t, rfl⟩
theorem len_ge2 {r : F} (h : 3 ≤ r.length + 1) : ∃ x y t, r = x :: y :: t := by
  obtain ⟨x, t, rfl⟩ := len_ge1 (by omega : 2 ≤ r.length + 1)
  simp only [List.length_cons] at h
  obtain ⟨y, u, rfl⟩ := len_ge1 (by omega : 2 ≤ t.length + 1)
  exact ⟨x, y, u, rfl⟩
theorem len_ge3 {r : F} (h : 4 ≤ r.length + 1) : ∃ x y z t, r = x :: y :: z :: t := by
  obtain ⟨x, y, t, rfl⟩ := len_ge2 (by omega : 3 ≤ r.length + 1)
  simp only [List.length_cons] at h
  obtain ⟨z, u, rfl⟩ := len_ge1 (by omega : 2 ≤ t.length + 1)
  exact ⟨x, y, z, u, rfl⟩
theorem acc1 (c : Nat) (x : UInt8) : acc c [x] = c * 64 + x.toNat % 64 := rfl
theorem acc2 (c : Nat) (x y : UInt8) : acc c [x, y] = (c * 64 + x.toNat % 64) * 64 + y.toNat % 64 := rfl
theorem acc3 (c : Nat) (x y z : UInt8) : acc c [x, y, z] = ((c * 64 + x.toNat % 64) * 64 + y.toNat % 64) * 64 + z.toNat % 64 := rfl

theorem head_cases (b : UInt8) : (240 ≤ b.toNat ∧ head b = b.toNat - 240) ∨ (224 ≤ b.toNat ∧ b.toNat < 240 ∧ head b = b.toNat - 224) ∨ (192 ≤ b.toNat ∧ b.toNat < 224 ∧ head b = b.toNat - 192) ∨ (b.toNat < 192 ∧ head b = b.toNat) := by
  unfold head
  by_cases h1 : 240 ≤ b.toNat
  · rw [if_pos h1]; omega
  · rw [if_neg h1]
    by_cases h2 : 224 ≤ b.toNat
    · rw [if_pos h2]; omega
    · rw [if_neg h2]
      by_cases h3 : 192 ≤ b.toNat
      · rw [if_pos h3]; omega
      · rw [if_neg h3]; omega
/-- no code has these bytes: by the first byte and the count -/
theorem ne1 (b : UInt8) (r : F) (hb : 128 ≤ b.toNat) : put (acc (head b) (r.take 0)) ≠ (b :: r).take 1 := by
  intro h
  have := (put1 _ _).1 h
  simp only [List.take_zero, acc, List.foldl_nil] at this
  omega
theorem ne2 (b : UInt8) (r : F) (hb : b.toNat < 192 ∨ 224 ≤ b.toNat) (h8 : 128 ≤ b.toNat) (hl : 2 ≤ r.length + 1) : put (acc (head b) (r.take 1)) ≠ (b :: r).take 2 := by
  obtain ⟨x, t, rfl⟩ := len_ge1 hl
  intro h
  have := (put2 (acc (head b) [x]) b x).1 h
  rw [acc1] at this
  have h9 := byte_lt b
  have hh := head_cases b
  generalize head b = hd at *
  clear h
  omega
theorem ne3 (b : UInt8) (r : F) (hb : b.toNat < 224 ∨ 240 ≤ b.toNat) (h8 : 128 ≤ b.toNat) (hl : 3 ≤ r.length + 1) : put (acc (head b) (r.take 2)) ≠ (b :: r).take 3 := by
  obtain ⟨x, y, t, rfl⟩ := len_ge2 hl
  intro h
  have := (put3 (acc (head b) [x, y]) b x y).1 h
  rw [acc2] at this
  obtain ⟨a1, a2, a3, a4, a5, a6⟩ := this
  clear a3 h
  have h9 := byte_lt b
  have hh := head_cases b
  generalize head b = hd at *
  omega
theorem ne4 (b : UInt8) (r : F) (hb : b.toNat < 240 ∨ 248 ≤ b.toNat) (h8 : 128 ≤ b.toNat) (hl : 4 ≤ r.length + 1) : put (acc (head b) (r.take 3)) ≠ (b :: r).take 4 := by
  obtain ⟨x, y, z, t, rfl⟩ := len_ge3 hl
  intro h
  have := (put4 (acc (head b) [x, y, z]) b x y z).1 h
  rw [acc3] at this
  obtain ⟨a1, a2, a4, a5, a6, a7⟩ := this
  clear h a5 a6 a7
  have h9 := byte_lt b
  have hh := head_cases b
  generalize head b = hd at *
  omega

theorem get_none (b : UInt8) (r : F) (h : (first b).1 = 0 ∨ r.length + 1 < (first b).1) : get (b :: r) = none := by
  unfold get
  dsimp only
  rw [if_pos h]

theorem rget_get (l : F) : rget l 4 1 = get l := by
  cases l with
  | nil => rfl
  | cons b r =>
    have hb := byte_lt b
    by_cases h1 : b.toNat < 128
    · have hh : head b = b.toNat := by unfold head; rw [if_neg (by omega), if_neg (by omega), if_neg (by omega)]
      have hf : first b = (1, b.toNat) := by unfold first; rw [if_pos h1]
      unfold rget get
      dsimp only
      have hp : put (acc (head b) (r.take (1 - 1))) = (b :: r).take 1 := by
        rw [hh]; exact (put1 _ _).2 ⟨h1, rfl⟩
      rw [if_pos ⟨by omega, by omega⟩, if_pos hp, hf]
      dsimp only
      rw [if_neg (by omega), if_pos, hh]
      refine ⟨rfl, ?_, ?_⟩
      · show long b.toNat = 1; unfold long; rw [if_pos h1]
      · show code b.toNat = true; unfold code; simp; omega
    · have n1 := ne1 b r (by omega)
      rw [rget_go b r 3 1 (fun _ => n1) (by omega), if_pos (by omega)]
      by_cases h2 : 192 ≤ b.toNat ∧ b.toNat < 224
      · have hh : head b = b.toNat - 192 := by unfold head; rw [if_neg (by omega), if_neg (by omega), if_pos (by omega)]
        have hf : first b = (2, b.toNat % 32) := by unfold first; rw [if_neg h1, if_pos h2]
        have hm : b.toNat % 32 = b.toNat - 192 := by omega
        by_cases hl : 2 ≤ r.length + 1
        · rw [rget_at b r 2 2 (by omega) hl (fun m q1 q2 q3 => by
            rcases (by omega : m = 3 ∨ m = 4) with rfl | rfl
            · exact ne3 b r (by omega) (by omega) q3
            · exact ne4 b r (by omega) (by omega) q3)]
          obtain ⟨x, t, rfl⟩ := len_ge1 hl
          unfold get
          dsimp only
          rw [hf]
          dsimp only
          rw [if_neg (show ¬ (2 = 0 ∨ (x :: t).length + 1 < 2) by simp only [List.length_cons]; omega), hm, hh]
          simp only [show (2 - 1 : Nat) = 1 from rfl, List.take_succ_cons, List.take_zero, acc1, List.all_cons, List.all_nil, Bool.and_true]
          have hx := byte_lt x
          by_cases hc : put ((b.toNat - 192) * 64 + x.toNat % 64) = [b, x]
          · rw [if_pos hc, if_pos]
            have := (put2 _ _ _).1 hc
            refine ⟨by unfold tl; simp; omega, ?_, by unfold code; simp; omega⟩
            unfold long; rw [if_neg (by omega), if_pos (by omega)]
          · rw [if_neg hc, if_neg]
            rintro ⟨q1, q2, q3⟩
            refine hc ((put2 _ _ _).2 ?_)
            unfold tl at q1
            simp at q1
            unfold long at q2
            split at q2
            · omega
            · refine ⟨by omega, by omega, by omega, by omega⟩
        · rw [rget_go b r 2 2 (fun q => absurd q hl) (by omega), if_neg hl]
          rw [get_none b r (by rw [hf]; dsimp only; omega)]
      · rw [rget_go b r 2 2 (fun q => ne2 b r (by omega) (by omega) q) (by omega)]
        by_cases h3 : 224 ≤ b.toNat ∧ b.toNat < 240
        · have hh : head b = b.toNat - 224 := by unfold head; rw [if_neg (by omega), if_pos (by omega)]
          have hf : first b = (3, b.toNat % 16) := by unfold first; rw [if_neg h1, if_neg h2, if_pos h3]
          have hm : b.toNat % 16 = b.toNat - 224 := by omega
          by_cases hl : 3 ≤ r.length + 1
          · rw [if_pos (by omega), rget_at b r 1 3 (by omega) hl (fun m q1 q2 q3 => by
              obtain rfl : m = 4 := by omega
              exact ne4 b r (by omega) (by omega) q3)]
            obtain ⟨x, y, t, rfl⟩ := len_ge2 hl
            unfold get
            dsimp only
            rw [hf]
            dsimp only
            rw [if_neg (show ¬ (3 = 0 ∨ (x :: y :: t).length + 1 < 3) by simp only [List.length_cons]; omega), hm, hh]
            simp only [show (3 - 1 : Nat) = 2 from rfl, List.take_succ_cons, List.take_zero, acc2, List.all_cons, List.all_nil, Bool.and_true]
            have hx := byte_lt x
            have hy := byte_lt y
            by_cases hc : put (((b.toNat - 224) * 64 + x.toNat % 64) * 64 + y.toNat % 64) = [b, x, y]
            · rw [if_pos hc, if_pos]
              have := (put3 _ _ _ _).1 hc
              refine ⟨by unfold tl; simp; omega, ?_, this.2.2.1⟩
              unfold long; rw [if_neg (by omega), if_neg (by omega), if_pos (by omega)]
            · rw [if_neg hc, if_neg]
              rintro ⟨q1, q2, q3⟩
              refine hc ((put3 _ _ _ _).2 ?_)
              unfold tl at q1
              simp at q1
              unfold long at q2
              split at q2
              · omega
              · split at q2
                · omega
                · refine ⟨by omega, by omega, q3, by omega, by omega, by omega⟩
          · rw [rget_go b r 1 3 (fun q => absurd q hl) (by omega), if_neg hl]
            rw [get_none b r (by rw [hf]; dsimp only; omega)]
            split <;> rfl
        · rw [rget_go b r 1 3 (fun q => ne3 b r (by omega) (by omega) q) (by omega)]
          by_cases h4 : 240 ≤ b.toNat ∧ b.toNat < 248
          · have hh : head b = b.toNat - 240 := by unfold head; rw [if_pos (by omega)]
            have hf : first b = (4, b.toNat % 8) := by unfold first; rw [if_neg h1, if_neg h2, if_neg h3, if_pos h4]
            have hm : b.toNat % 8 = b.toNat - 240 := by omega
            by_cases hl : 4 ≤ r.length + 1
            · rw [if_pos (by omega), if_pos (by omega), rget_at b r 0 4 (by omega) hl (fun m q1 q2 q3 => by omega)]
              obtain ⟨x, y, z, t, rfl⟩ := len_ge3 hl
              unfold get
              dsimp only
              rw [hf]
              dsimp only
              rw [if_neg (show ¬ (4 = 0 ∨ (x :: y :: z :: t).length + 1 < 4) by simp only [List.length_cons]; omega), hm, hh]
              simp only [show (4 - 1 : Nat) = 3 from rfl, List.take_succ_cons, List.take_zero, acc3, List.all_cons, List.all_nil, Bool.and_true]
              have hx := byte_lt x
              have hy := byte_lt y
              have hz := byte_lt z
              by_cases hc : put ((((b.toNat - 240) * 64 + x.toNat % 64) * 64 + y.toNat % 64) * 64 + z.toNat % 64) = [b, x, y, z]
              · rw [if_pos hc, if_pos]
                have := (put4 _ _ _ _ _).1 hc
                refine ⟨by unfold tl; simp; omega, ?_, by unfold code; simp; omega⟩
                unfold long; rw [if_neg (by omega), if_neg (by omega), if_neg (by omega)]
              · rw [if_neg hc, if_neg]
                rintro ⟨q1, q2, q3⟩
                refine hc ((put4 _ _ _ _ _).2 ?_)
                unfold tl at q1
                simp at q1
                unfold code at q3
                simp at q3
                unfold long at q2
                split at q2
                · omega
                · split at q2
                  · omega
                  · split at q2
                    · omega
                    · refine ⟨by omega, by omega, by omega, by omega, by omega, by omega⟩
            · have hn : rget (b :: r) 1 4 = none := rget_no b r 1 4 (fun m q1 q2 q3 => by omega)
              rw [hn]
              rw [get_none b r (by rw [hf]; dsimp only; omega)]
              split <;> (try split) <;> rfl
          · have hn : rget (b :: r) 1 4 = none := rget_no b r 1 4 (fun m q1 q2 q3 => by
              obtain rfl : m = 4 := by omega
              exact ne4 b r (by omega) (by omega) q3)
            have hf : first b = (0, 0) := by unfold first; rw [if_neg h1, if_neg h2, if_neg h3, if_neg h4]
            rw [hn]
            rw [get_none b r (by rw [hf]; exact .inl rfl)]
            split <;> (try split) <;> rfl

end Go.Proofs.Ythbpkmmnoeikoaa.Uf
