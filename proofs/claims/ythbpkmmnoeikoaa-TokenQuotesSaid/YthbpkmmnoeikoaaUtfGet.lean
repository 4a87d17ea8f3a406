/-
  The program's utf: code, long, first, Get. Condition: places and counts that an int holds.
-/
import Derived.Test.YthbpkmmnoeikoaaKit
import Derived.Test.YthbpkmmnoeikoaaUtfSpec
import Derived.Laws.BitsAllLaws
import Derived.Laws.BitsAll
import Derived.Laws.Shifts
namespace Go.Proofs.Ythbpkmmnoeikoaa
open Go Go.RowKit
set_option linter.unusedVariables false
set_option linter.unusedSimpArgs false

def codeI (c : Int) : Bool := decide (0 ≤ c ∧ c ≤ 1114111 ∧ (c < 55296 ∨ 57343 < c))
theorem codeI_nat (c : Nat) : codeI (c : Int) = Uf.code c := by
  unfold codeI Uf.code
  congr 1
  exact propext ⟨fun h => by omega, fun h => by omega⟩

theorem code_any (c : Int) (w : World) : Calls Try.prog 107 #[.int .i64 c] w fun e w' => e = .returned (.bool (codeI c)) ∧ w' = w := by
  unfold codeI
  rcases (by omega : c < 0 ∨ (0 ≤ c ∧ c < 55296) ∨ (55296 ≤ c ∧ c ≤ 57343) ∨ (57343 < c ∧ c ≤ 1114111) ∨ 1114111 < c) with h | h | h | h | h <;>
  · go_enter Try.func107, Try.ntmps107
    go_wp2
    go_ret
    exact ⟨ret_b (by rw [Bool.eq_iff_iff]; simp; try omega), rfl⟩
theorem rcode_any (c : Int) (w : World) : Calls Try.prog 89 #[.int .i64 c] w fun e w' => e = .returned (.bool (codeI c)) ∧ w' = w := by
  unfold codeI
  rcases (by omega : c < 0 ∨ (0 ≤ c ∧ c < 55296) ∨ (55296 ≤ c ∧ c ≤ 57343) ∨ (57343 < c ∧ c ≤ 1114111) ∨ 1114111 < c) with h | h | h | h | h <;>
  · go_enter Try.func89, Try.ntmps89
    go_wp2
    go_ret
    exact ⟨ret_b (by rw [Bool.eq_iff_iff]; simp; try omega), rfl⟩

def longH (c : Nat) : Nat := if c < 128 then 0 else if c < 2048 then 192 else if c < 65536 then 224 else 240
set_option maxRecDepth 100000 in
theorem long_any (c : Nat) (w : World) (hc : c ≤ 4294967296) : Calls Try.prog 106 #[.int .i64 (c : Int)] w fun e w' => e = .returned (.tuple #[.int .i64 (Uf.long c : Int), .int .i64 (longH c : Int)]) ∧ w' = w := by
  unfold Uf.long longH
  by_cases h1 : c < 128
  · rw [if_pos h1, if_pos h1]
    have t1 : decide ((c : Int) < 128) = true := decide_eq_true (by omega)
    clear h1 hc
    go_enter Try.func106, Try.ntmps106
    go_wp2
    go_ret2
    exact ⟨rfl, rfl⟩
  · rw [if_neg h1, if_neg h1]
    have t1 : decide ((c : Int) < 128) = false := decide_eq_false (by omega)
    by_cases h2 : c < 2048
    · rw [if_pos h2, if_pos h2]
      have t2 : decide ((c : Int) < 2048) = true := decide_eq_true (by omega)
      clear h1 h2 hc
      go_enter Try.func106, Try.ntmps106
      go_wp2
      go_ret2
      exact ⟨rfl, rfl⟩
    · rw [if_neg h2, if_neg h2]
      have t2 : decide ((c : Int) < 2048) = false := decide_eq_false (by omega)
      by_cases h3 : c < 65536
      · rw [if_pos h3, if_pos h3]
        have t3 : decide ((c : Int) < 65536) = true := decide_eq_true (by omega)
        clear h1 h2 h3 hc
        go_enter Try.func106, Try.ntmps106
        go_wp2
        go_ret2
        exact ⟨rfl, rfl⟩
      · rw [if_neg h3, if_neg h3]
        have t3 : decide ((c : Int) < 65536) = false := decide_eq_false (by omega)
        clear h1 h2 h3 hc
        go_enter Try.func106, Try.ntmps106
        go_wp2
        go_ret2
        exact ⟨rfl, rfl⟩

theorem u8_mask (b : UInt8) (m k : Nat) (hm : m < 256) (h : ∀ x : Nat, x &&& m = x % k) : bits .and .u8 (b.toNat : Int) (m : Int) = ((b.toNat % k : Nat) : Int) := by
  rw [u8_and_nat _ _ b.toNat_lt hm, h]
set_option maxRecDepth 100000 in
theorem first_any (b : UInt8) (w : World) : Calls Try.prog 105 #[.int .u8 (b.toNat : Int)] w fun e w' => e = .returned (.tuple #[.int .i64 ((Uf.first b).1 : Int), .int .i64 ((Uf.first b).2 : Int)]) ∧ w' = w := by
  have hb := b.toNat_lt
  have m31 : bits .and .u8 (b.toNat : Int) 31 = ((b.toNat % 32 : Nat) : Int) := u8_mask b 31 32 (by decide) nat_mask5
  have m15 : bits .and .u8 (b.toNat : Int) 15 = ((b.toNat % 16 : Nat) : Int) := u8_mask b 15 16 (by decide) nat_mask4
  have m7 : bits .and .u8 (b.toNat : Int) 7 = ((b.toNat % 8 : Nat) : Int) := u8_mask b 7 8 (by decide) nat_mask3
  unfold Uf.first
  by_cases h1 : b.toNat < 128
  · rw [if_pos h1]
    go_enter Try.func105, Try.ntmps105
    go_wp2
    go_ret2
    exact ⟨rfl, rfl⟩
  · rw [if_neg h1]
    by_cases h2 : 192 ≤ b.toNat ∧ b.toNat < 224
    · rw [if_pos h2]
      go_enter Try.func105, Try.ntmps105
      go_wp2
      go_ret2
      exact ⟨rfl, rfl⟩
    · rw [if_neg h2]
      by_cases h3 : 224 ≤ b.toNat ∧ b.toNat < 240
      · rw [if_pos h3]
        go_enter Try.func105, Try.ntmps105
        go_wp2
        go_ret2
        exact ⟨rfl, rfl⟩
      · rw [if_neg h3]
        by_cases h4 : 240 ≤ b.toNat ∧ b.toNat < 248
        · rw [if_pos h4]
          go_enter Try.func105, Try.ntmps105
          go_wp2
          go_ret2
          exact ⟨rfl, rfl⟩
        · rw [if_neg h4]
          rcases (by omega : b.toNat < 192 ∨ 248 ≤ b.toNat) with h | h
          · go_enter Try.func105, Try.ntmps105
            go_wp2
            go_ret2
            exact ⟨rfl, rfl⟩
          · go_enter Try.func105, Try.ntmps105
            go_wp2
            go_ret2
            exact ⟨rfl, rfl⟩

/-! ### bytes in memory -/
/-- v is a slice of the bytes xs -/
def BytesV (w : World) (v : Value) (xs : List UInt8) : Prop :=
  ∃ p cap, v = .slice p xs.length cap ∧ xs.length ≤ cap ∧ cap ≤ maxLen ∧ ∀ (j : Nat) (hj : j < xs.length), ∃ b o, p = some ⟨b, o, none⟩ ∧ w.cell? ⟨b, o + j, none⟩ = some (.int .u8 (xs[j].toNat : Int))
theorem BytesV.below {w w' : World} {v : Value} {xs : List UInt8} (h : BytesV w v xs) (hb : Below w.heap.size w w') : BytesV w' v xs :=
  let ⟨p, cap, e, h1, h2, hc⟩ := h
  ⟨p, cap, e, h1, h2, fun j hj => let ⟨b, o, q1, q2⟩ := hc j hj; ⟨b, o, q1, (World.cell?_of_block (hb.block b (World.block_lt_of_cell? w _ q2))).trans q2⟩⟩

theorem acc_take (c : Nat) (r : List UInt8) (m : Nat) (h : m < r.length) : Uf.acc c (r.take (m + 1)) = Uf.acc c (r.take m) * 64 + r[m].toNat % 64 := by
  rw [List.take_add_one, List.getElem?_eq_getElem h, Option.toList_some]
  unfold Uf.acc
  rw [List.foldl_append]; rfl
theorem all_take (r : List UInt8) (m : Nat) (h : m < r.length) : (r.take (m + 1)).all Uf.tl = ((r.take m).all Uf.tl && Uf.tl r[m]) := by
  rw [List.take_add_one, List.getElem?_eq_getElem h, Option.toList_some, List.all_append]; simp
theorem andNot63 (x : UInt8) : bits .andNot .u8 (x.toNat : Int) 63 = (x.toNat : Int) / 64 * 64 := by
  have := u8_andNot_nat x.toNat 63 x.toNat_lt (by decide)
  rw [show ((63 : Nat) : Int) = 63 from rfl] at this
  rw [this]
  have h : ∀ n : Nat, n < 256 → n &&& (255 - 63) = n / 64 * 64 := by decide +kernel
  rw [h _ x.toNat_lt]; simp
theorem tl_eq (x : UInt8) : ((x.toNat : Int) / 64 * 64 != 128) = !Uf.tl x := by
  have := x.toNat_lt
  unfold Uf.tl
  rw [Bool.eq_iff_iff]
  simp only [bne_iff_ne, ne_eq, Bool.not_eq_true', decide_eq_false_iff_not]
  omega
theorem ofInt_i64n (a : Nat) (ha : a < 9223372036854775808) : (BitVec.ofInt 64 (a : Int)).toNat = a := by
  rw [BitVec.ofInt_natCast, BitVec.toNat_ofNat]; exact Nat.mod_eq_of_lt (by omega)
theorem i64_or_nat (a b : Nat) (ha : a < 9223372036854775808) (hb : b < 9223372036854775808) : bits .or .i64 (a : Int) (b : Int) = ((a ||| b : Nat) : Int) := by
  have hx : a ||| b < 2 ^ 63 := Nat.or_lt_two_pow (by omega) (by omega)
  show IntKind.i64.wrap ((BitVec.ofInt 64 (a : Int) ||| BitVec.ofInt 64 (b : Int)).toNat : Int) = _
  rw [BitVec.toNat_or, ofInt_i64n a ha, ofInt_i64n b hb, IntKind.wrap_i64]
  omega
theorem i64_and_nat (a b : Nat) (ha : a < 9223372036854775808) (hb : b < 9223372036854775808) : bits .and .i64 (a : Int) (b : Int) = ((a &&& b : Nat) : Int) := by
  have hx : a &&& b < 2 ^ 63 := Nat.and_lt_two_pow _ (by omega)
  show IntKind.i64.wrap ((BitVec.ofInt 64 (a : Int) &&& BitVec.ofInt 64 (b : Int)).toNat : Int) = _
  rw [BitVec.toNat_and, ofInt_i64n a ha, ofInt_i64n b hb, IntKind.wrap_i64]
  omega
theorem or_low (c x : Nat) (hc : c < 4294967296) (hx : x < 64) : bits .or .i64 ((c : Int) * 64) (x : Int) = ((c * 64 + x : Nat) : Int) := by
  have h1 : c * 64 ||| x = c * 64 + x := nat_join 6 (c * 64) x (by omega) (by omega)
  have h2 := i64_or_nat (c * 64) x (by omega) (by omega)
  rw [h1, Int.natCast_mul] at h2
  exact h2

def getV : Option (Nat × Nat) → Value
  | none => .tuple #[.int .i64 0, .int .i64 0, .bool false]
  | some p => .tuple #[.int .i64 (p.1 : Int), .int .i64 (p.2 : Int), .bool true]

def GgR (r : List UInt8) (c0 : Nat) (n : Nat) (w0 : World) (c i : Value) (w : World) : Prop :=
  ∃ m : Nat, m ≤ n ∧ i = .int .i64 (m : Int) ∧ c = .int .i64 (Uf.acc c0 (r.take m) : Int) ∧ w = w0 ∧ Hid ((r.take m).all Uf.tl = true)

theorem first_bounds (b : UInt8) : (Uf.first b).1 ≤ 4 ∧ (Uf.first b).2 < 128 := by
  unfold Uf.first
  split
  · exact ⟨by dsimp only; omega, by assumption⟩
  · split
    · exact ⟨by dsimp only; omega, by dsimp only; omega⟩
    · split
      · exact ⟨by dsimp only; omega, by dsimp only; omega⟩
      · split
        · exact ⟨by dsimp only; omega, by dsimp only; omega⟩
        · exact ⟨by decide, by decide⟩
theorem acc_bound (c : Nat) (hc : c < 128) (r : List UInt8) (m : Nat) (hm : m ≤ 3) : Uf.acc c (r.take m) < 33554432 := by
  have h := Uf.acc_lt c (r.take m)
  have h1 : (r.take m).length ≤ 3 := by rw [List.length_take]; omega
  have h2 : 64 ^ (r.take m).length ≤ 64 ^ 3 := Nat.pow_le_pow_right (by decide) h1
  have h3 : (c + 1) * 64 ^ (r.take m).length ≤ 128 * 64 ^ 3 := Nat.mul_le_mul (by omega) h2
  omega

set_option maxRecDepth 100000 in
set_option maxHeartbeats 2000000 in
theorem get_any (v : Value) (xs : List UInt8) (at1 : Nat) (w : World) (hv : BytesV w v xs) (hat : at1 ≤ xs.length) (hlen : xs.length ≤ 4294967296) :
    Calls Try.prog 92 #[v, .int .i64 (at1 : Int)] w fun e w' => e = .returned (getV (Uf.get (xs.drop at1))) ∧ w' = w := by
  obtain ⟨p, cap, rfl, hcap, hcapm, hc⟩ := hv
  by_cases hlt : at1 < xs.length
  · obtain ⟨b, o, rfl, hc0⟩ := hc at1 hlt
    have hd : xs.drop at1 = xs[at1] :: xs.drop (at1 + 1) := (List.getElem_cons_drop hlt).symm
    have hfb := first_bounds xs[at1]
    have hg : Uf.get (xs.drop at1) = if (Uf.first xs[at1]).1 = 0 ∨ xs.length - at1 < (Uf.first xs[at1]).1 then none
      else if ((xs.drop (at1 + 1)).take ((Uf.first xs[at1]).1 - 1)).all Uf.tl = true ∧ Uf.long (Uf.acc (Uf.first xs[at1]).2 ((xs.drop (at1 + 1)).take ((Uf.first xs[at1]).1 - 1))) = (Uf.first xs[at1]).1 ∧ Uf.code (Uf.acc (Uf.first xs[at1]).2 ((xs.drop (at1 + 1)).take ((Uf.first xs[at1]).1 - 1))) = true then some (Uf.acc (Uf.first xs[at1]).2 ((xs.drop (at1 + 1)).take ((Uf.first xs[at1]).1 - 1)), (Uf.first xs[at1]).1) else none := by
      rw [hd, Uf.get]
      try dsimp only
      rw [List.length_drop, show xs.length - (at1 + 1) + 1 = xs.length - at1 by omega]
    have hr : ∀ (j : Nat) (hj : j < (xs.drop (at1 + 1)).length), w.cell? ⟨b, o + (at1 + 1) + j, none⟩ = some (.int .u8 (((xs.drop (at1 + 1))[j]).toNat : Int)) := fun j hj => by
      rw [List.length_drop] at hj
      obtain ⟨b', o', e, q⟩ := hc (at1 + 1 + j) (by omega)
      cases e
      rw [List.getElem_drop, ← q, Nat.add_assoc]
    have hrl : (xs.drop (at1 + 1)).length = xs.length - (at1 + 1) := List.length_drop
    have hfa := fun W => first_any xs[at1] W
    generalize Uf.get (xs.drop at1) = g at *
    clear hd
    generalize xs.drop (at1 + 1) = r at *
    generalize xs[at1] = x0 at *
    generalize Uf.first x0 = fp at *
    obtain ⟨n, c0⟩ := fp
    dsimp only at hfa hfb hg
    have HG := Lib.hid hg
    clear hg
    have HFA := Lib.hid hfa
    clear hfa hc
    by_cases h0 : n = 0
    · subst h0
      obtain rfl : g = none := HG.out.trans (if_pos (.inl rfl))
      go_enter Try.func92, Try.ntmps92
      go_wp2_with (go_at_call 105; refine (HFA.out _).mono ?_; rintro e w1 ⟨rfl, rfl⟩)
      exact bodyPost_ret (v := getV none) (by simp [results, Try.results92, go_sem, getV]) rfl ⟨rfl, rfl⟩
    · by_cases h1 : xs.length - at1 < n
      · obtain rfl : g = none := HG.out.trans (if_pos (.inr h1))
        have tg : decide ((n : Int) > (xs.length : Int) - (at1 : Int)) = true := decide_eq_true (by omega)
        go_enter Try.func92, Try.ntmps92
        go_wp2_with (go_at_call 105; refine (HFA.out _).mono ?_; rintro e w1 ⟨rfl, rfl⟩)
        exact bodyPost_ret (v := getV none) (by simp [results, Try.results92, go_sem, getV]) rfl ⟨rfl, rfl⟩
      · have HGG := Lib.hid (HG.out.trans (if_neg (fun h => h.elim h0 h1)))
        clear HG
        have tg : decide ((n : Int) > (xs.length : Int) - (at1 : Int)) = false := decide_eq_false (by omega)
        have g1 : (at1 : Int) + 1 ≤ (at1 : Int) + (n : Int) := by omega
        have g2 : (at1 : Int) + (n : Int) ≤ (cap : Int) := by omega
        by_cases hcq : cap = at1 + 1
        · obtain rfl : n = 1 := by omega
          go_enter Try.func92, Try.ntmps92
          go_wp2_with (go_at_call 105; refine (HFA.out _).mono ?_; rintro e w1 ⟨rfl, rfl⟩)
          go_loopw [8, 47] (GgR r c0 (1 - 1) w1) (fun _ i _ => 1 - (intOf i).toNat)
          case atStart => exact ⟨0, Nat.zero_le _, by go_num, rfl, rfl, rfl⟩
          case round =>
            obtain ⟨m, hm, rfl, rfl, rfl, HT⟩ := hrel
            have hac := acc_bound c0 hfb.2 r m (by omega)
            obtain rfl : m = 1 - 1 := by omega
            have hlo := fun W => long_any (Uf.acc c0 (r.take (1 - 1))) W (by omega)
            have hco := fun W => code_any (Uf.acc c0 (r.take (1 - 1)) : Int) W
            simp only [codeI_nat] at hco
            have HC := HGG.out
            clear HGG
            generalize Uf.acc c0 (r.take (1 - 1)) = c at *
            have HGG := Lib.hid HC
            clear HC
            have HLO := Lib.hid hlo
            have HCO := Lib.hid hco
            clear hlo hco
            generalize hld : Uf.long c = ld at *
            generalize hcd : Uf.code c = cd at *
            by_cases hq : ld = 1 ∧ cd = true
            · obtain ⟨rfl, rfl⟩ := hq
              obtain rfl : g = some (c, 1) := HGG.out.trans (if_pos ⟨HT.out, rfl, rfl⟩)
              clear HGG
              go_wp2_with (first | (go_at_call 106; refine (HLO.out _).mono ?_; rintro e w2 ⟨rfl, rfl⟩) | (go_at_call 107; refine (HCO.out _).mono ?_; rintro e w2 ⟨rfl, rfl⟩))
              exact bodyPost_ret (v := getV (some (c, 1))) (by simp [results, Try.results92, go_sem, getV]) rfl ⟨rfl, rfl⟩
            · obtain rfl : g = none := HGG.out.trans (if_neg (fun h => hq h.2))
              clear HGG
              cases cd with
              | false =>
                go_wp2_with (first | (go_at_call 106; refine (HLO.out _).mono ?_; rintro e w2 ⟨rfl, rfl⟩) | (go_at_call 107; refine (HCO.out _).mono ?_; rintro e w2 ⟨rfl, rfl⟩))
                exact bodyPost_ret (v := getV none) (by simp [results, Try.results92, go_sem, getV]) rfl ⟨rfl, rfl⟩
              | true =>
                have tn : ((ld : Int) != 1) = true := by rw [bne_iff_ne]; intro h; exact hq ⟨by omega, rfl⟩
                go_wp2_with (first | (go_at_call 106; refine (HLO.out _).mono ?_; rintro e w2 ⟨rfl, rfl⟩) | (go_at_call 107; refine (HCO.out _).mono ?_; rintro e w2 ⟨rfl, rfl⟩))
                exact bodyPost_ret (v := getV none) (by simp [results, Try.results92, go_sem, getV]) rfl ⟨rfl, rfl⟩
        · go_enter Try.func92, Try.ntmps92
          go_wp2_with (go_at_call 105; refine (HFA.out _).mono ?_; rintro e w1 ⟨rfl, rfl⟩)
          go_loopw [8, 47] (GgR r c0 (n - 1) w1) (fun _ i _ => n - (intOf i).toNat)
          case atStart => exact ⟨0, Nat.zero_le _, by go_num, rfl, rfl, rfl⟩
          case round =>
            obtain ⟨m, hm, rfl, rfl, rfl, HT⟩ := hrel
            have hac := acc_bound c0 hfb.2 r m (by omega)
            have hac4 := acc_bound c0 hfb.2 r (m + 1)
            by_cases hlm : m < n - 1
            · have hmr : m < r.length := by omega
              have hcm := hr m hmr
              have hct := acc_take c0 r m hmr
              have hat2 := all_take r m hmr
              have hle : r.take (n - 1) = r.take m ++ r[m] :: (r.drop (m + 1)).take (n - 1 - (m + 1)) := by
                have e1 : r.take (n - 1) = (r.take (n - 1)).take m ++ (r.take (n - 1)).drop m := (List.take_append_drop _ _).symm
                rw [e1, List.take_take, Nat.min_eq_left (by omega), List.drop_take, ← List.getElem_cons_drop hmr, show n - 1 - m = (n - 1 - (m + 1)) + 1 by omega, List.take_succ_cons]
              have hne : Uf.tl r[m] = false → (r.take (n - 1)).all Uf.tl = false := fun h => by rw [hle, List.all_append, List.all_cons, h]; simp
              generalize r[m] = x at *
              have b1 := andNot63 x
              have b2 := tl_eq x
              have b3 : bits .and .u8 (x.toNat : Int) 63 = (x.toNat : Int) % 64 := (u8_mask x 63 64 (by decide) nat_mask6).trans (by simp)
              have b4 := or_low (Uf.acc c0 (r.take m)) (x.toNat % 64) (by omega) (Nat.mod_lt _ (by decide))
              rw [← hct, show ((x.toNat % 64 : Nat) : Int) = (x.toNat : Int) % 64 by simp] at b4
              have HNE := Lib.hid hne
              have HA2 := Lib.hid hat2
              clear hne hat2 hle hct
              have hx := x.toNat_lt
              cases ht : Uf.tl x with
              | true =>
                rw [ht] at b2; simp only [Bool.not_true, Bool.not_false] at b2
                have HTT := Lib.hid ht
                clear ht
                go_wp2
                go_roundw
                case rel => exact ⟨m + 1, by omega, by go_num, rfl, rfl, by unfold Hid; rw [HA2.out, HT.out, HTT.out]; rfl⟩
                case measure => simp [intOf]; omega
              | false =>
                rw [ht] at b2; simp only [Bool.not_true, Bool.not_false] at b2
                have HN := Lib.hid (HNE.out ht)
                clear ht
                obtain rfl : g = none := HGG.out.trans (if_neg (fun h => by rw [HN.out] at h; exact absurd h.1 (by simp)))
                clear HGG
                go_wp2
                exact bodyPost_ret (v := getV none) (by simp [results, Try.results92, go_sem, getV]) rfl ⟨rfl, rfl⟩
            · obtain rfl : m = n - 1 := by omega
              have hlo := fun W => long_any (Uf.acc c0 (r.take (n - 1))) W (by omega)
              have hco := fun W => code_any (Uf.acc c0 (r.take (n - 1)) : Int) W
              simp only [codeI_nat] at hco
              have HC := HGG.out
              clear HGG
              generalize Uf.acc c0 (r.take (n - 1)) = c at *
              have HGG := Lib.hid HC
              clear HC
              have HLO := Lib.hid hlo
              have HCO := Lib.hid hco
              clear hlo hco
              generalize hld : Uf.long c = ld at *
              generalize hcd : Uf.code c = cd at *
              by_cases hq : ld = n ∧ cd = true
              · obtain ⟨rfl, rfl⟩ := hq
                obtain rfl : g = some (c, ld) := HGG.out.trans (if_pos ⟨HT.out, rfl, rfl⟩)
                clear HGG
                go_wp2_with (first | (go_at_call 106; refine (HLO.out _).mono ?_; rintro e w2 ⟨rfl, rfl⟩) | (go_at_call 107; refine (HCO.out _).mono ?_; rintro e w2 ⟨rfl, rfl⟩))
                exact bodyPost_ret (v := getV (some (c, ld))) (by simp [results, Try.results92, go_sem, getV]) rfl ⟨rfl, rfl⟩
              · obtain rfl : g = none := HGG.out.trans (if_neg (fun h => hq h.2))
                clear HGG
                cases cd with
                | false =>
                  go_wp2_with (first | (go_at_call 106; refine (HLO.out _).mono ?_; rintro e w2 ⟨rfl, rfl⟩) | (go_at_call 107; refine (HCO.out _).mono ?_; rintro e w2 ⟨rfl, rfl⟩))
                  exact bodyPost_ret (v := getV none) (by simp [results, Try.results92, go_sem, getV]) rfl ⟨rfl, rfl⟩
                | true =>
                  have tn : ((ld : Int) != (n : Int)) = true := by rw [bne_iff_ne]; intro h; exact hq ⟨by omega, rfl⟩
                  go_wp2_with (first | (go_at_call 106; refine (HLO.out _).mono ?_; rintro e w2 ⟨rfl, rfl⟩) | (go_at_call 107; refine (HCO.out _).mono ?_; rintro e w2 ⟨rfl, rfl⟩))
                  exact bodyPost_ret (v := getV none) (by simp [results, Try.results92, go_sem, getV]) rfl ⟨rfl, rfl⟩
  · have hd : xs.drop at1 = [] := List.drop_eq_nil_of_le (by omega)
    rw [hd]
    go_enter Try.func92, Try.ntmps92
    go_wp2_with fail
    exact bodyPost_ret (v := getV none) (by simp [results, Try.results92, go_sem, getV]) rfl ⟨rfl, rfl⟩

end Go.Proofs.Ythbpkmmnoeikoaa
