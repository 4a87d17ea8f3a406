/-
  The reference's Great: are rows heavier than 2000? Condition: the rows, fields and bytes are no more than a slice or text of the form can hold (2^47).
-/
import Derived.Test.YtnljlbhknbjinaaCsvWeigh
namespace Go.Proofs.Ytnljlbhknbjinaa
open Go.RowKit
set_option linter.unusedVariables false
set_option linter.unusedSimpArgs false

def GrR (rs : List (List Cs.F)) (w0 : World) (n i : Value) (w : World) : Prop :=
  ∃ k : Nat, k ≤ rs.length ∧ i = .int .i64 (k : Int) ∧ n = .int .i64 (Cs.wt (rs.take k) : Int) ∧ Cs.wt (rs.take k) ≤ 2000 + k ∧ Below w0.heap.size w0 w
def GfR (r : List Cs.F) (q : Nat) (w0 : World) (n i : Value) (w : World) : Prop :=
  ∃ m : Nat, m ≤ r.length ∧ i = .int .i64 (m : Int) ∧ n = .int .i64 ((q + Cs.wr (r.take m) : Nat) : Int) ∧ (m = 0 ∨ q + Cs.wr (r.take m) ≤ 2000) ∧ Below w0.heap.size w0 w

set_option maxHeartbeats 2000000 in
theorem great_any (v : Value) (rs : List (List Cs.F)) (w : World) (hv : RowsV w v rs) (hn : rs.length ≤ 140737488355328) (hr : ∀ r ∈ rs, r.length ≤ 140737488355328 ∧ ∀ f ∈ r, f.length ≤ 140737488355328) :
    Calls Try.prog 13 #[v] w fun e w' => e = .returned (.bool (decide (2000 < Cs.wt rs))) ∧ Below w.heap.size w w' := by
  obtain ⟨p, cap, rfl, hrd⟩ := hv.form
  go_enter Try.func13, Try.ntmps13
  go_wp2
  go_loopw [3, 4] (GrR rs w) (fun _ i _ => rs.length - (intOf i).toNat)
  case atStart => exact ⟨0, Nat.zero_le _, by go_num, by rw [List.take_zero]; go_num, by rw [List.take_zero]; simp [Cs.wt], Below.refl _ _⟩
  case round =>
    obtain ⟨k, hk, rfl, rfl, hw, hbl⟩ := hrel
    by_cases hlt : k < rs.length
    · obtain ⟨b, o, x, rfl, hcx, hsx⟩ := hrd k hlt
      obtain ⟨q, cq, rfl, hst⟩ := hsx.form
      have hcx1 := cell_below hbl hcx
      have htk := Cs.wt_take hlt
      have hmn := Cs.wt_mono rs (k + 1)
      obtain ⟨hr1, hr2⟩ := hr rs[k] (List.getElem_mem hlt)
      generalize rs[k] = r at *
      have i1 : (0 : Int) ≤ (k : Int) := by omega
      have i2 : (k : Int) < (rs.length : Int) := by omega
      go_wp2
      go_loopw [3, 5] (GfR r (Cs.wt (rs.take k) + 1) w) (fun _ i _ => r.length - (intOf i).toNat)
      case atStart => exact ⟨0, Nat.zero_le _, by go_num, by rw [List.take_zero]; simp [Cs.wr], .inl rfl, hbl⟩
      case round =>
        obtain ⟨m, hm, rfl, rfl, hw1, hbl1⟩ := hrel
        have hcx2 := cell_below hbl1 hcx
        by_cases hlm : m < r.length
        · obtain ⟨b2, o2, rfl, hcs0⟩ := hst m hlm
          have hcs := cell_below hbl1 hcs0
          have hwk := Cs.wr_take hlm
          have hmr := Cs.wr_mono r (m + 1)
          have hfl := hr2 r[m] (List.getElem_mem hlm)
          generalize r[m] = f at *
          have hq3 : Cs.wt (rs.take k) + 1 + Cs.wr (r.take m) ≤ 2001 + k + 0 := by
            rcases hw1 with rfl | hw1
            · rw [List.take_zero]; simp [Cs.wr]; omega
            · omega
          have z : (bs f).size = f.length := bs_size f
          have i4 : (0 : Int) ≤ (m : Int) := by omega
          have i5 : (m : Int) < (r.length : Int) := by omega
          by_cases hg : 2000 < Cs.wt (rs.take k) + 1 + Cs.wr (r.take (m + 1))
          · have t : (decide (((Cs.wt (rs.take k) + 1 + Cs.wr (r.take m) : Nat) : Int) + 1 + (f.length : Int) > 2000)) = true := decide_eq_true (by omega)
            go_wp2
            go_ret
            exact ⟨ret_b (decide_eq_true (by omega)).symm, hbl1⟩
          · have t : (decide (((Cs.wt (rs.take k) + 1 + Cs.wr (r.take m) : Nat) : Int) + 1 + (f.length : Int) > 2000)) = false := decide_eq_false (by omega)
            go_wp2
            go_roundw
            case rel => exact ⟨m + 1, by omega, by go_num, by go_num, .inr (by omega), hbl1⟩
            case measure => simp [intOf]; omega
        · obtain rfl : m = r.length := by omega
          rw [List.take_length] at *
          have hq4 : Cs.wt (rs.take (k + 1)) ≤ 2000 + (k + 1) := by
            rcases hw1 with h0 | h0
            · obtain rfl := List.eq_nil_of_length_eq_zero h0
              rw [htk]; simp only [Cs.wr]; omega
            · omega
          go_wp2
          go_roundw
          case rel => exact ⟨k + 1, by omega, by go_num, by go_num, by omega, hbl1⟩
          case measure => simp [intOf]; omega
    · obtain rfl : k = rs.length := by omega
      rw [List.take_length] at *
      go_wp2
      go_ret
      exact ⟨ret_b (by simp; omega), hbl⟩

end Go.Proofs.Ytnljlbhknbjinaa
