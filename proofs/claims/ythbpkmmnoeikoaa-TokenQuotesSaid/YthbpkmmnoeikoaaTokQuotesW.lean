/-
  The walk of TokenQuotes. Condition: the law's own.
-/
import Derived.Test.YthbpkmmnoeikoaaTokBlanksW
import Derived.Test.YthbpkmmnoeikoaaTokBack
namespace Go.Proofs.Ythbpkmmnoeikoaa
open Go Go.RowKit
set_option linter.unusedVariables false
set_option linter.unusedSimpArgs false

def spc (k : Nat) : ByteArray := bs (List.replicate k 32)
theorem spc_size (k : Nat) : (spc k).size = k := by unfold spc; rw [bs_size, List.length_replicate]
theorem spc_succ (k : Nat) : spc (k + 1) = spc k ++ ⟨#[32]⟩ := by
  unfold spc
  rw [List.replicate_succ', ← bs_append]; rfl

theorem quotes_toks (K : Nat) (hK : K ≤ 100) (s Q : ByteArray) (hv : valid s.data.toList = true) (hQ : Q.data.toList = 34 :: (Tk.qbs s.data.toList ++ [34])) (hq : Q.size ≤ 1000000) (w : World) :
    Calls Try.prog 35 #[.string (spc K ++ Q ++ spc K)] w fun e w' => ∃ b c, e = .returned (.tuple #[.slice (some ⟨b, 0, none⟩) 2 c, .int .i64 ((Q.size : Int) + 2 * (K : Int)), .int .i64 0]) ∧
      (w'.cell? ⟨b, 0, none⟩ = some (.int .i64 7) ∧ w'.cell? ⟨b, 1, none⟩ = some (.int .i64 (K : Int)) ∧ w'.cell? ⟨b, 2, none⟩ = some (.int .i64 ((K : Int) + (Q.size : Int))) ∧ w'.cell? ⟨b, 3, none⟩ = some (.string s) ∧ w'.cell? ⟨b, 4, none⟩ = some (.int .i64 0)) ∧
      w'.cell? ⟨b, 5, none⟩ = some (.int .i64 0) ∧ Below w.heap.size w w' := by
  have hd : (spc K ++ Q ++ spc K).data.toList = List.replicate K 32 ++ (Q.data.toList ++ List.replicate K 32) := by
    rw [data_app, data_app, List.append_assoc]; rfl
  have hz : (spc K ++ Q ++ spc K).size ≤ 4294967280 := by
    have := spc_size K
    simp only [ByteArray.size_append]; omega
  have hits := its_quote s.data.toList (List.replicate K 32) hv (fun c hc => by rw [List.eq_of_mem_replicate hc]; decide) Q.data.toList hQ
  rw [← hd, len_data, List.length_replicate, len_data] at hits
  refine (all_toks2 (spc K ++ Q ++ spc K) hz _ hits.symm w).mono ?_
  rintro e w' ⟨p, c, rfl, hv, hb⟩
  have hg : good [((⟨7, K, K + Q.size, s.data.toList, 0⟩ : Tk.Tok), K + Q.size, (0 : Int)), (⟨0, Q.size + 2 * K, Q.size + 2 * K, [], 0⟩, Q.size + 2 * K, 0)] = [⟨7, K, K + Q.size, s.data.toList, 0⟩, ⟨0, Q.size + 2 * K, Q.size + 2 * K, [], 0⟩] := rfl
  rw [hg] at hv ⊢
  obtain ⟨p', c', hp, hv2⟩ := id hv
  cases hp
  obtain ⟨b, rfl, x0, x1, x2, x3, x4⟩ := hv2 0 (by simp)
  obtain ⟨b', hb', y0, _⟩ := hv2 1 (by simp)
  cases hb'
  refine ⟨b, c, ?_, ⟨x0, x1, ?_, x3, x4⟩, y0, hb⟩
  · show Ending.returned (.tuple #[_, .int .i64 ((Q.size + 2 * K : Nat) : Int), .int .i64 0]) = _
    rw [Int.natCast_add, Int.natCast_mul]; rfl
  · have : ((K + Q.size : Nat) : Int) = (K : Int) + (Q.size : Int) := Int.natCast_add _ _
    rw [← this]; exact x2

def HdR (K : Nat) (w0 : World) (h i : Value) (w : World) : Prop := ∃ k : Nat, k ≤ K ∧ i = .int .i64 (k : Int) ∧ h = .string (spc k) ∧ w = w0

set_option maxRecDepth 100000 in
set_option maxHeartbeats 4000000 in
theorem tokenQuotes_walk (s : ByteArray) (n : Int) (w : World) (hs : s.size ≤ maxLen) (h1 : 0 ≤ n) (h2 : n ≤ 255) :
    Calls Try.prog 12 #[.string s, .int .u8 n] w fun e w' => e = .returned (.bool true) ∧ Below w.heap.size w w' := by
  have HA := Lib.hid alive_any
  by_cases hl : s.size > 300
  · have t5 : decide ((s.size : Int) > 300) = true := decide_eq_true (by omega)
    go_enter Try.func12, Try.ntmps12
    go_wp2_with (go_at_call 32; with_reducible refine (HA.out _).mono ?_; rintro e w1 ⟨rfl, hb1⟩)
    go_ret
    exact ⟨rfl, hb1⟩
  · have t5 : decide ((s.size : Int) > 300) = false := decide_eq_false (by omega)
    have HQ := Lib.hid (fun W => quote_any s W (by omega))
    have HV := Lib.hid (fun W => rvalid_any s W (by omega))
    have hs3 : s.size ≤ 300 := by omega
    cases hv : valid s.data.toList with
    | false =>
      have hq : Tk.quote s.data.toList = [] := by unfold Tk.quote; rw [hv, if_neg (by simp)]
      rw [hq] at HQ
      rw [hv] at HV
      have hst : str [] = .string ⟨#[]⟩ := rfl
      rw [hst] at HQ
      clear hq hv hl
      go_enter Try.func12, Try.ntmps12
      go_wp2_with (first
        | (go_at_call 32; with_reducible refine (HA.out _).mono ?_; rintro e w1 ⟨rfl, hb1⟩)
        | (go_at_call 38; with_reducible refine (HQ.out _).mono ?_; rintro e w2 ⟨rfl, hb2⟩)
        | (go_at_call 40; with_reducible refine (HV.out _).mono ?_; rintro e w3 ⟨rfl, hb3⟩))
      go_ret
      exact ⟨rfl, chain (chain hb1 hb2) hb3⟩
    | true =>
      obtain ⟨K, hK, hK9⟩ : ∃ K : Nat, n.tmod 9 = (K : Int) ∧ K < 9 := by
        have h3 := Int.tmod_eq_emod_of_nonneg (b := 9) h1
        exact ⟨(n.tmod 9).toNat, by omega, by omega⟩
      obtain ⟨Q, hQ⟩ : ∃ Q, Q = bs (34 :: (Tk.qbs s.data.toList ++ [34])) := ⟨_, rfl⟩
      have hQs : Q.size ≤ 1802 := by
        have := Tk.qbs_len s.data.toList
        rw [len_data] at this
        rw [hQ, bs_size]; simp; omega
      have hq : Tk.quote s.data.toList = 34 :: (Tk.qbs s.data.toList ++ [34]) := by unfold Tk.quote; rw [hv, if_pos rfl]
      have hst : str (34 :: (Tk.qbs s.data.toList ++ [34])) = .string Q := by rw [hQ]
      rw [hq, hst] at HQ
      have HT := Lib.hid (quotes_toks K (by omega) s Q hv (by rw [hQ]; rfl) (by omega))
      rw [hv] at HV
      have zK := spc_size K
      clear hq hv hl hst hQ h1 h2
      go_enter Try.func12, Try.ntmps12
      go_wp2_with (first
        | (go_at_call 32; with_reducible refine (HA.out _).mono ?_; rintro e w1 ⟨rfl, hb1⟩)
        | (go_at_call 38; with_reducible refine (HQ.out _).mono ?_; rintro e w2 ⟨rfl, hb2⟩)
        | (go_at_call 40; with_reducible refine (HV.out _).mono ?_; rintro e w3 ⟨rfl, hb3⟩))
      go_loopw [6, 7] (HdR K w3) (fun _ i _ => K - (intOf i).toNat)
      case atStart => exact ⟨0, Nat.zero_le _, by go_num, rfl, rfl⟩
      case round =>
        obtain ⟨k, hk, rfl, rfl, rfl⟩ := hrel
        have zk := spc_size k
        by_cases hlt : k < K
        · have tl : decide ((k : Int) < (K : Int)) = true := decide_eq_true (by omega)
          have HS := Lib.hid (spc_succ k)
          go_wp2
          go_roundw
          case rel => exact ⟨k + 1, by omega, by go_num, by rw [HS.out], rfl⟩
          case measure => simp [intOf]; omega
        · obtain rfl : k = K := by omega
          have tl : decide ((k : Int) < (k : Int)) = false := decide_eq_false (by omega)
          go_wp2_with (go_at_call 35; with_reducible refine (HT.out _).mono ?_; rintro e w4 ⟨b, c, rfl, ⟨x0, x1, x2, x3, x4⟩, x5, hb4⟩)
          exact bodyPost_ret (v := .bool true) (by simp [results, Try.results12, go_sem]) rfl ⟨rfl, chain (chain (chain hb1 hb2) hb3) hb4⟩

end Go.Proofs.Ythbpkmmnoeikoaa
