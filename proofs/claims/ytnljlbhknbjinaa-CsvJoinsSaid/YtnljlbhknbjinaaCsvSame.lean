/-
  The reference's Same: are rows the same rows? Condition: at most 2^32 rows, of at most 2^32 fields each.
-/
import Derived.Test.YtnljlbhknbjinaaCsvWrite
import Derived.Deep.QuietTactic
import Derived.BigQuiet
namespace Go.Proofs.Ytnljlbhknbjinaa
open Go.RowKit
set_option linter.unusedVariables false
set_option linter.unusedSimpArgs false

theorem take_ext {α : Type} {a b : List α} {k : Nat} (h : a.take k = b.take k) (ha : k < a.length) (hb : k < b.length) (he : a[k] = b[k]) : a.take (k + 1) = b.take (k + 1) := by
  rw [List.take_add_one, List.take_add_one, h, List.getElem?_eq_getElem ha, List.getElem?_eq_getElem hb, he]

theorem below_drewN {B : Nat} {a w : World} (h : Below B a w) (n : Nat) : Below B a (w.drewN n) := ⟨h.os, h.tape, h.output, h.size, h.block⟩

def SmR (a b : List (List Cs.F)) (w0 : World) (i : Value) (w : World) : Prop :=
  ∃ k : Nat, k ≤ a.length ∧ i = .int .i64 (k : Int) ∧ Below w0.heap.size w0 w ∧ Hid (a.take k = b.take k)
def SfR (a b : List Cs.F) (w0 : World) (i : Value) (w : World) : Prop :=
  ∃ k : Nat, k ≤ a.length ∧ i = .int .i64 (k : Int) ∧ Below w0.heap.size w0 w ∧ Hid (a.take k = b.take k)

set_option maxHeartbeats 2000000 in
theorem same_any (v1 v2 : Value) (a b : List (List Cs.F)) (w : World) (h1 : RowsV w v1 a) (h2 : RowsV w v2 b) (hn1 : a.length ≤ 4294967296) (hn2 : b.length ≤ 4294967296) (hr1 : ∀ r ∈ a, r.length ≤ 4294967296) (hr2 : ∀ r ∈ b, r.length ≤ 4294967296) :
    Calls Try.prog 12 #[v1, v2] w fun e w' => e = .returned (.bool (decide (a = b))) ∧ Below w.heap.size w w' := by
  obtain ⟨p1, c1, rfl, hf1⟩ := h1.form
  obtain ⟨p2, c2, rfl, hf2⟩ := h2.form
  by_cases hl : a.length = b.length
  · have t0 : ((a.length : Int) != (b.length : Int)) = false := by rw [hl]; simp
    go_enter Try.func12, Try.ntmps12
    go_wp2
    go_loopw [5] (SmR a b w) (fun i _ => a.length - (intOf i).toNat)
    case atStart => exact ⟨0, Nat.zero_le _, by go_num, Below.refl _ _, by unfold Hid; simp⟩
    case round =>
      obtain ⟨k, hk, rfl, hbl, HE⟩ := hrel
      by_cases hlt : k < a.length
      · obtain ⟨b1, o1, x1, rfl, hc1, hs1⟩ := hf1 k hlt
        obtain ⟨b2, o2, x2, rfl, hc2, hs2⟩ := hf2 k (by omega)
        obtain ⟨q1, d1, rfl, hg1⟩ := hs1.form
        obtain ⟨q2, d2, rfl, hg2⟩ := hs2.form
        have hm1 := hr1 a[k] (List.getElem_mem hlt)
        have hm2 := hr2 b[k] (List.getElem_mem (by omega))
        have htx : a[k] = b[k] → a.take (k + 1) = b.take (k + 1) := fun h => take_ext HE.out hlt (by omega) h
        have hnx : a[k] ≠ b[k] → decide (a = b) = false := fun h => decide_eq_false (fun e => h (by subst e; rfl))
        generalize a[k] = ra at *
        generalize b[k] = rb at *
        have HT := Lib.hid htx
        have HN := Lib.hid hnx
        clear htx hnx
        have e1 := cell_below hbl hc1
        have e2 := cell_below hbl hc2
        have i1 : (0 : Int) ≤ (k : Int) := by omega
        have i2 : (k : Int) < (a.length : Int) := by omega
        have i3 : (k : Int) < (b.length : Int) := by omega
        by_cases hrl : ra.length = rb.length
        · have t1 : ((ra.length : Int) != (rb.length : Int)) = false := by rw [hrl]; simp
          have HRL := Lib.hid hrl
          clear hrl
          go_wp2
          go_quiet (fail)
          go_wp2
          go_loopw [6] (SfR ra rb w) (fun i _ => ra.length - (intOf i).toNat)
          case atStart => exact ⟨0, Nat.zero_le _, by go_num, below_drewN hbl _, by unfold Hid; simp⟩
          case round =>
            obtain ⟨m, hm, rfl, hbl1, HF⟩ := hrel
            have hrl := HRL.out
            have e3 := cell_below hbl1 hc1
            have e4 := cell_below hbl1 hc2
            by_cases hlm : m < ra.length
            · obtain ⟨b3, o3, rfl, hd1⟩ := hg1 m hlm
              obtain ⟨b4, o4, rfl, hd2⟩ := hg2 m (by omega)
              have htx : ra[m] = rb[m] → ra.take (m + 1) = rb.take (m + 1) := fun h => take_ext HF.out hlm (by omega) h
              have hnx : ra[m] ≠ rb[m] → ra ≠ rb := fun h e => h (by subst e; rfl)
              generalize ra[m] = fa at *
              generalize rb[m] = fb at *
              have HT2 := Lib.hid htx
              have HN2 := Lib.hid hnx
              clear htx hnx
              have e5 := cell_below hbl1 hd1
              have e6 := cell_below hbl1 hd2
              have i4 : (0 : Int) ≤ (m : Int) := by omega
              have i5 : (m : Int) < (ra.length : Int) := by omega
              have i6 : (m : Int) < (rb.length : Int) := by omega
              clear hrl
              by_cases hff : fa = fb
              · have t3 : ((bs fa).toList == (bs fb).toList) = true := by rw [hff]; simp
                have HH := Lib.hid (HT2.out hff)
                clear hff
                go_wp2
                go_quiet (fail)
                go_wp2
                go_roundw
                case rel => exact ⟨m + 1, by omega, by go_num, below_drewN hbl1 _, HH⟩
                case measure => simp [intOf]; omega
              · have t3 : ((bs fa).toList == (bs fb).toList) = false := by
                  rw [beq_eq_false_iff_ne, ByteArray.toList_eq, ByteArray.toList_eq]; exact hff
                have HA := Lib.hid (HN.out (HN2.out hff))
                clear hff
                go_wp2
                go_quiet (fail)
                go_wp2
                go_ret
                exact ⟨ret_b HA.out.symm, below_drewN hbl1 _⟩
            · obtain rfl : m = ra.length := by omega
              have hee : ra = rb := by
                have := HF.out
                rw [List.take_length, hrl, List.take_length] at this
                exact this
              have HH := Lib.hid (HT.out hee)
              clear hrl hee
              go_wp2
              go_roundw
              case rel => exact ⟨k + 1, by omega, by go_num, hbl1, HH⟩
              case measure => simp [intOf]; omega
        · have t1 : ((ra.length : Int) != (rb.length : Int)) = true := by rw [bne_iff_ne]; omega
          have HA := Lib.hid (HN.out (fun e => hrl (by rw [e])))
          clear hrl
          go_wp2
          go_quiet (fail)
          go_wp2
          go_ret
          exact ⟨ret_b HA.out.symm, below_drewN hbl _⟩
      · have hee : a = b := by
          have := HE.out
          obtain rfl : k = a.length := by omega
          rw [List.take_length, hl, List.take_length] at this
          exact this
        have HA := Lib.hid (decide_eq_true hee)
        clear hee
        go_wp2
        go_ret
        exact ⟨ret_b HA.out.symm, hbl⟩
  · have t0 : ((a.length : Int) != (b.length : Int)) = true := by rw [bne_iff_ne]; omega
    have HA : Hid (decide (a = b) = false) := decide_eq_false (fun e => hl (by rw [e]))
    clear hl
    go_enter Try.func12, Try.ntmps12
    go_wp2
    go_ret
    exact ⟨ret_b HA.out.symm, Below.refl _ _⟩

end Go.Proofs.Ytnljlbhknbjinaa
