/-
  token.Quote: a text's JSON. Condition: the text is shorter than 2^29 bytes.
-/
import Derived.Test.YthbpkmmnoeikoaaTokText
import Derived.Test.YthbpkmmnoeikoaaUtfValid
namespace Go.Proofs.Ythbpkmmnoeikoaa
open Go Go.RowKit
set_option linter.unusedVariables false
set_option linter.unusedSimpArgs false

namespace Tk
def hx (n : Nat) : UInt8 := six.getD n 0
def qb (c : UInt8) : F := if c = 34 ∨ c = 92 then [92, c] else if c.toNat < 32 then [92, 117, 48, 48, hx (c.toNat / 16), hx (c.toNat % 16)] else [c]
def qbs (l : F) : F := (l.map qb).flatten
def quote (l : F) : F := if valid l then 34 :: (qbs l ++ [34]) else []
theorem qbs_snoc (l : F) (c : UInt8) : qbs (l ++ [c]) = qbs l ++ qb c := by simp [qbs]
theorem qb_len (c : UInt8) : (qb c).length ≤ 6 := by
  unfold qb
  split
  · simp
  · split <;> simp
theorem qbs_len : ∀ l : F, (qbs l).length ≤ 6 * l.length
  | [] => by simp [qbs]
  | c :: l => by
    have h1 := qb_len c
    have h2 := qbs_len l
    have : qbs (c :: l) = qb c ++ qbs l := by simp [qbs]
    rw [this, List.length_append, List.length_cons]; omega
end Tk

theorem six_ix : ∀ n : Nat, (h : n < 16) → (⟨#[48, 49, 50, 51, 52, 53, 54, 55, 56, 57, 97, 98, 99, 100, 101, 102]⟩ : ByteArray)[n]'h = Tk.hx n := by decide

def QuR (s : ByteArray) (w0 : World) (i : Value) (w : World) : Prop :=
  ∃ k : Nat, k ≤ s.size ∧ i = .int .i64 (k : Int) ∧ IsB w0.heap.size w0.heap.size (34 :: Tk.qbs (s.data.toList.take k)) w ∧ Below w0.heap.size w0 w

set_option maxRecDepth 100000 in
set_option maxHeartbeats 4000000 in
theorem quote_any (s : ByteArray) (w : World) (hs : s.size ≤ 536870000) :
    Calls Try.prog 38 #[.string s] w fun e w' => e = .returned (str (Tk.quote s.data.toList)) ∧ Below w.heap.size w w' := by
  have HV := Lib.hid (fun W => valid_any s W (by omega))
  unfold Tk.quote
  cases hv : valid s.data.toList with
  | false =>
    rw [hv] at HV
    clear hv
    go_enter Try.func38, Try.ntmps38
    go_wp2_with (go_at_call 56; with_reducible refine (HV.out _).mono ?_; rintro e w1 ⟨rfl, hb1⟩)
    go_ret
    exact ⟨rfl, hb1⟩
  | true =>
    rw [hv] at HV
    rw [if_pos rfl]
    clear hv
    go_enter Try.func38, Try.ntmps38
    go_wp2_with (go_at_call 56; with_reducible refine (HV.out _).mono ?_; rintro e w1 ⟨rfl, hb1⟩)
    refine (wb_any w1.heap.size w1.heap.size [] 34 _ (IsB.new w1) (by simp)).mono ?_
    rintro e w2 ⟨rfl, hB, hb2⟩
    go_wp2_with fail
    go_loopw [12] (QuR s w1) (fun i _ => s.size - (intOf i).toNat)
    case atStart => exact ⟨0, Nat.zero_le _, by go_num, by rw [List.take_zero]; exact hB, ((Below.refl _ _).alloc (Nat.le_refl _) _).trans hb2⟩
    case round =>
      clear hB hb2
      obtain ⟨k, hk, rfl, hB, hbl⟩ := hrel
      have hll := Tk.qbs_len (s.data.toList.take k)
      rw [List.length_take, len_data] at hll
      by_cases hlt : k < s.size
      · have hta : s.data.toList.take (k + 1) = s.data.toList.take k ++ [s[k]] := by
          rw [List.take_add_one, List.getElem?_eq_getElem (by rw [len_data]; exact hlt)]; rfl
        have hq : 34 :: Tk.qbs (s.data.toList.take (k + 1)) = (34 :: Tk.qbs (s.data.toList.take k)) ++ Tk.qb s[k] := by rw [hta, Tk.qbs_snoc]; simp
        have hsx := s[k].toNat_lt
        by_cases h1 : s[k] = 34 ∨ s[k] = 92
        · have hqb : Tk.qb s[k] = [92] ++ [s[k]] := by unfold Tk.qb; rw [if_pos h1]; rfl
          rw [hqb, ← List.append_assoc] at hq
          have HQ := Lib.hid hq
          clear hq hqb hta
          rcases h1 with h1 | h1
          · have t34 : ((s[k].toNat : Int) == 34) = true := by rw [h1]; rfl
            clear h1
            go_wp2_with fail
            refine (wb_any _ _ _ 92 _ hB (by simp; omega)).mono ?_
            rintro e w2 ⟨rfl, hB2, hb2⟩
            go_wp2_with fail
            refine (wb_any _ _ _ s[k] _ hB2 (by simp; omega)).mono ?_
            rintro e w3 ⟨rfl, hB3, hb3⟩
            go_wp2_with fail
            go_roundw
            case rel => exact ⟨k + 1, by omega, by go_num, by rw [HQ.out]; exact hB3, (hbl.trans hb2).trans hb3⟩
            case measure => simp [intOf]; omega
          · have t34 : ((s[k].toNat : Int) == 34) = false := by rw [h1]; rfl
            have t92 : ((s[k].toNat : Int) == 92) = true := by rw [h1]; rfl
            clear h1
            go_wp2_with fail
            refine (wb_any _ _ _ 92 _ hB (by simp; omega)).mono ?_
            rintro e w2 ⟨rfl, hB2, hb2⟩
            go_wp2_with fail
            refine (wb_any _ _ _ s[k] _ hB2 (by simp; omega)).mono ?_
            rintro e w3 ⟨rfl, hB3, hb3⟩
            go_wp2_with fail
            go_roundw
            case rel => exact ⟨k + 1, by omega, by go_num, by rw [HQ.out]; exact hB3, (hbl.trans hb2).trans hb3⟩
            case measure => simp [intOf]; omega
        · have t34 : ((s[k].toNat : Int) == 34) = false := beq_eq_false_iff_ne.2 (fun e => h1 (.inl (UInt8.toNat_inj.1 (by have : (34 : UInt8).toNat = 34 := rfl; omega))))
          have t92 : ((s[k].toNat : Int) == 92) = false := beq_eq_false_iff_ne.2 (fun e => h1 (.inr (UInt8.toNat_inj.1 (by have : (92 : UInt8).toNat = 92 := rfl; omega))))
          by_cases h32 : s[k].toNat < 32
          · have t32 : decide ((s[k].toNat : Int) < 32) = true := decide_eq_true (by omega)
            have hqb : Tk.qb s[k] = [92, 117, 48, 48] ++ [Tk.hx (s[k].toNat / 16)] ++ [Tk.hx (s[k].toNat % 16)] := by unfold Tk.qb; rw [if_neg h1, if_pos h32]; rfl
            rw [hqb, ← List.append_assoc, ← List.append_assoc] at hq
            have HQ := Lib.hid hq
            have x1 := six_ix (s[k].toNat / 16) (by omega)
            have x2 := six_ix (s[k].toNat % 16) (by omega)
            have x3 : bits .and .u8 (s[k].toNat : Int) 15 = (s[k].toNat : Int) % 16 := (u8_mask s[k] 15 16 (by decide) nat_mask4).trans (by simp)
            clear hq hqb hta h1
            go_wp2_with fail
            refine (ws_any _ _ _ ⟨#[92, 117, 48, 48]⟩ _ hB (by simp; omega) (by decide)).mono ?_
            rintro e w2 ⟨rfl, hB2, hb2⟩
            go_wp2_with fail
            refine (wb_any _ _ _ (Tk.hx (s[k].toNat / 16)) _ hB2 (by simp; omega)).mono ?_
            rintro e w3 ⟨rfl, hB3, hb3⟩
            go_wp2_with fail
            refine (wb_any _ _ _ (Tk.hx (s[k].toNat % 16)) _ hB3 (by simp; omega)).mono ?_
            rintro e w4 ⟨rfl, hB4, hb4⟩
            go_wp2_with fail
            go_roundw
            case rel => exact ⟨k + 1, by omega, by go_num, by rw [HQ.out]; exact hB4, ((hbl.trans hb2).trans hb3).trans hb4⟩
            case measure => simp [intOf]; omega
          · have t32 : decide ((s[k].toNat : Int) < 32) = false := decide_eq_false (by omega)
            have hqb : Tk.qb s[k] = [s[k]] := by unfold Tk.qb; rw [if_neg h1, if_neg h32]
            rw [hqb] at hq
            have HQ := Lib.hid hq
            clear hq hqb hta h1
            go_wp2_with fail
            refine (wb_any _ _ _ s[k] _ hB (by simp; omega)).mono ?_
            rintro e w2 ⟨rfl, hB2, hb2⟩
            go_wp2_with fail
            go_roundw
            case rel => exact ⟨k + 1, by omega, by go_num, by rw [HQ.out]; exact hB2, hbl.trans hb2⟩
            case measure => simp [intOf]; omega
      · obtain rfl : k = s.size := by omega
        rw [List.take_of_length_le (by rw [len_data]; omega)] at hB hll
        go_wp2_with fail
        refine (wb_any _ _ _ 34 _ hB (by simp; omega)).mono ?_
        rintro e w3 ⟨rfl, hB3, hb3⟩
        go_wp2_with fail
        refine (bstr_any _ _ _ _ hB3).mono ?_
        rintro e w4 ⟨rfl, hb4⟩
        go_wp2_with fail
        go_ret
        exact ⟨rfl, hb1.trans (((hbl.trans hb3).trans hb4).mono hb1.size)⟩

end Go.Proofs.Ythbpkmmnoeikoaa
