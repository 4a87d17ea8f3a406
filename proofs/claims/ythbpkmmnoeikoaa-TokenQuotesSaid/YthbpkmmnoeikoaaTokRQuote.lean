/-
  The reference's Quote: a text's JSON. Condition: the text is shorter than 2^29 bytes.
-/
import Derived.Test.YthbpkmmnoeikoaaTokQuote
import Derived.Test.YthbpkmmnoeikoaaUtfRValid
import Derived.Test.YthbpkmmnoeikoaaTokRText
namespace Go.Proofs.Ythbpkmmnoeikoaa
open Go Go.RowKit
set_option linter.unusedVariables false
set_option linter.unusedSimpArgs false

theorem six_ext : ∀ n : Nat, n < 16 → (⟨#[48, 49, 50, 51, 52, 53, 54, 55, 56, 57, 97, 98, 99, 100, 101, 102]⟩ : ByteArray).extract n (n + 1) = bs [Tk.hx n] := by decide

def RqR (s : ByteArray) (w0 : World) (o i : Value) (w : World) : Prop :=
  ∃ (k : Nat) (acc : List UInt8), k ≤ s.size ∧ acc.length ≤ 6 * k + 1 ∧ i = .int .i64 (k : Int) ∧ o = str acc ∧ Hid (acc = 34 :: Tk.qbs (s.data.toList.take k)) ∧ Below w0.heap.size w0 w

set_option maxRecDepth 100000 in
set_option maxHeartbeats 4000000 in
theorem rquote_any (s : ByteArray) (w : World) (hs : s.size ≤ 536870000) :
    Calls Try.prog 39 #[.string s] w fun e w' => e = .returned (str (Tk.quote s.data.toList)) ∧ Below w.heap.size w w' := by
  have HV := Lib.hid (fun W => rvalid_any s W (by omega))
  unfold Tk.quote
  cases hv : valid s.data.toList with
  | false =>
    rw [hv] at HV
    clear hv
    go_enter Try.func39, Try.ntmps39
    go_wp2_with (go_at_call 40; with_reducible refine (HV.out _).mono ?_; rintro e w1 ⟨rfl, hb1⟩)
    go_ret
    exact ⟨rfl, hb1⟩
  | true =>
    rw [hv] at HV
    rw [if_pos rfl]
    clear hv
    go_enter Try.func39, Try.ntmps39
    go_wp2_with (go_at_call 40; with_reducible refine (HV.out _).mono ?_; rintro e w1 ⟨rfl, hb1⟩)
    go_loopw [4, 5] (RqR s w) (fun _ i _ => s.size - (intOf i).toNat)
    case atStart => exact ⟨0, [34], Nat.zero_le _, by simp, by go_num, rfl, by unfold Hid; rw [List.take_zero]; rfl, hb1⟩
    case round =>
      obtain ⟨k, acc, hk, hacc, rfl, rfl, HA, hbl⟩ := hrel
      clear hb1
      have zacc : (bs acc).size = acc.length := bs_size _
      by_cases hlt : k < s.size
      · have tl : decide ((k : Int) < (s.size : Int)) = true := decide_eq_true (by omega)
        have hta : s.data.toList.take (k + 1) = s.data.toList.take k ++ [s[k]] := by
          rw [List.take_add_one, List.getElem?_eq_getElem (by rw [len_data]; exact hlt)]; rfl
        have hq : 34 :: Tk.qbs (s.data.toList.take (k + 1)) = acc ++ Tk.qb s[k] := by rw [hta, Tk.qbs_snoc, HA.out]; simp
        have hsx := s[k].toNat_lt
        have he1 := ext_one2 s k hlt
        have z1 : (s.extract k (k + 1)).size = 1 := by rw [ByteArray.size_extract]; omega
        by_cases h32 : s[k].toNat < 32
        · have t32 : decide ((s[k].toNat : Int) < 32) = true := decide_eq_true (by omega)
          have hn1 : ¬ (s[k] = 34 ∨ s[k] = 92) := by rintro (h | h) <;> rw [h] at h32 <;> revert h32 <;> decide
          have hqb : Tk.qb s[k] = [92, 117, 48, 48] ++ [Tk.hx (s[k].toNat / 16)] ++ [Tk.hx (s[k].toNat % 16)] := by unfold Tk.qb; rw [if_neg hn1, if_pos h32]; rfl
          rw [hqb, ← List.append_assoc, ← List.append_assoc] at hq
          have x1 := six_ext (s[k].toNat / 16) (by omega)
          have x2 := six_ext (s[k].toNat % 16) (by omega)
          have HV2 : Hid (str (34 :: Tk.qbs (s.data.toList.take (k + 1))) = .string (bs acc ++ ⟨#[92, 117, 48, 48]⟩ ++ (⟨#[48, 49, 50, 51, 52, 53, 54, 55, 56, 57, 97, 98, 99, 100, 101, 102]⟩ : ByteArray).extract (s[k].toNat / 16) (s[k].toNat / 16 + 1) ++ (⟨#[48, 49, 50, 51, 52, 53, 54, 55, 56, 57, 97, 98, 99, 100, 101, 102]⟩ : ByteArray).extract (s[k].toNat % 16) (s[k].toNat % 16 + 1))) := by
            unfold Hid
            rw [hq, x1, x2]
            show str _ = Value.string (bs acc ++ bs [92, 117, 48, 48] ++ bs [_] ++ bs [_])
            rw [bs_append, bs_append, bs_append]
          have HL : Hid ((34 :: Tk.qbs (s.data.toList.take (k + 1))).length ≤ 6 * (k + 1) + 1) := by unfold Hid; rw [hq]; simp; omega
          have q1 : (s[k].toNat : Int).tdiv 16 = (s[k].toNat : Int) / 16 := Int.tdiv_eq_ediv_of_nonneg (by omega)
          have q2 : (s[k].toNat : Int).tmod 16 = (s[k].toNat : Int) % 16 := Int.tmod_eq_emod_of_nonneg (by omega)
          clear hq hqb hta hn1 x1 x2 he1 z1
          go_wp2
          go_region
          go_wp2
          go_roundw
          case rel => exact ⟨k + 1, _, by omega, HL.out, by go_num, HV2.out.symm, rfl, hbl.drew⟩
          case measure => simp [intOf]; omega
        · have t32 : decide ((s[k].toNat : Int) < 32) = false := decide_eq_false (by omega)
          by_cases h1 : s[k] = 34 ∨ s[k] = 92
          · have hqb : Tk.qb s[k] = [92] ++ [s[k]] := by unfold Tk.qb; rw [if_pos h1]; rfl
            rw [hqb, ← List.append_assoc] at hq
            have HV2 : Hid (str (34 :: Tk.qbs (s.data.toList.take (k + 1))) = .string (bs acc ++ ⟨#[92]⟩ ++ s.extract k (k + 1))) := by
              unfold Hid
              rw [hq, he1]
              show str _ = Value.string (bs acc ++ bs [92] ++ bs [_])
              rw [bs_append, bs_append]
            have HL : Hid ((34 :: Tk.qbs (s.data.toList.take (k + 1))).length ≤ 6 * (k + 1) + 1) := by unfold Hid; rw [hq]; simp; omega
            clear hq hqb hta he1
            rcases h1 with h1 | h1
            · have t34 : ((s[k].toNat : Int) == 34) = true := by rw [h1]; rfl
              clear h1
              go_wp2
              go_roundw
              case rel => exact ⟨k + 1, _, by omega, HL.out, by go_num, HV2.out.symm, rfl, hbl⟩
              case measure => simp [intOf]; omega
            · have t34 : ((s[k].toNat : Int) == 34) = false := by rw [h1]; rfl
              have t92 : ((s[k].toNat : Int) == 92) = true := by rw [h1]; rfl
              clear h1
              go_wp2
              go_roundw
              case rel => exact ⟨k + 1, _, by omega, HL.out, by go_num, HV2.out.symm, rfl, hbl⟩
              case measure => simp [intOf]; omega
          · have t34 : ((s[k].toNat : Int) == 34) = false := beq_eq_false_iff_ne.2 (fun e => h1 (.inl (UInt8.toNat_inj.1 (by have : (34 : UInt8).toNat = 34 := rfl; omega))))
            have t92 : ((s[k].toNat : Int) == 92) = false := beq_eq_false_iff_ne.2 (fun e => h1 (.inr (UInt8.toNat_inj.1 (by have : (92 : UInt8).toNat = 92 := rfl; omega))))
            have hqb : Tk.qb s[k] = [s[k]] := by unfold Tk.qb; rw [if_neg h1, if_neg h32]
            rw [hqb] at hq
            have HV2 : Hid (str (34 :: Tk.qbs (s.data.toList.take (k + 1))) = .string (bs acc ++ s.extract k (k + 1))) := by
              unfold Hid
              rw [hq, he1]
              show str _ = Value.string (bs acc ++ bs [_])
              rw [bs_append]
            have HL : Hid ((34 :: Tk.qbs (s.data.toList.take (k + 1))).length ≤ 6 * (k + 1) + 1) := by unfold Hid; rw [hq]; simp; omega
            clear hq hqb hta he1 h1
            go_wp2
            go_roundw
            case rel => exact ⟨k + 1, _, by omega, HL.out, by go_num, HV2.out.symm, rfl, hbl⟩
            case measure => simp [intOf]; omega
      · obtain rfl : k = s.size := by omega
        have tl : decide ((s.size : Int) < (s.size : Int)) = false := decide_eq_false (by omega)
        have hq : acc = 34 :: Tk.qbs s.data.toList := by rw [HA.out, List.take_of_length_le (by rw [len_data]; omega)]
        have HR : Hid (str (34 :: (Tk.qbs s.data.toList ++ [34])) = .string (bs acc ++ ⟨#[34]⟩)) := by
          unfold Hid
          show str _ = Value.string (bs acc ++ bs [34])
          rw [bs_append, hq]; rfl
        clear hq HA
        go_wp2
        exact bodyPost_ret (v := .string (bs acc ++ ⟨#[34]⟩)) (by simp [results, Try.results39, go_sem]) rfl ⟨by rw [HR.out], hbl⟩

end Go.Proofs.Ythbpkmmnoeikoaa
