/-
  The reference's utf: Put, Bytes, Get. Condition: lists of at most 2^32 bytes.
-/
import Derived.Test.YthbpkmmnoeikoaaUtfPut
import Derived.Deep.RegionWith
import Derived.Deep.QuietTactic
import Derived.BigQuiet
namespace Go.Proofs.Ythbpkmmnoeikoaa
open Go Go.RowKit Go.Deep
set_option linter.unusedVariables false
set_option linter.unusedSimpArgs false

theorem chain {a b c : World} (h : Below a.heap.size a b) (k : Below b.heap.size b c) : Below a.heap.size a c := h.trans (k.mono h.size)
theorem below_drewN {B : Nat} {a w : World} (h : Below B a w) (n : Nat) : Below B a (w.drewN n) := ⟨h.os, h.tape, h.output, h.size, h.block⟩
theorem cell_below {w w' : World} (h : Below w.heap.size w w') {a : Addr} {v : Value} (hc : w.cell? a = some v) : w'.cell? a = some v :=
  (World.cell?_of_block (h.block a.block (World.block_lt_of_cell? w a hc))).trans hc

set_option maxRecDepth 100000 in
set_option maxHeartbeats 2000000 in
theorem rput_any (c : Int) (w : World) :
    Calls Try.prog 63 #[.int .i64 c] w fun e w' => ∃ v, e = .returned v ∧ BytesV w' v (putI c) ∧ Below w.heap.size w w' := by
  have HC := Lib.hid (fun W => rcode_any c W)
  cases hcd : codeI c with
  | false =>
    have hp : putI c = [] := by unfold putI; rw [hcd]; rfl
    rw [hp]
    rw [hcd] at HC
    clear hp hcd
    go_enter Try.func63, Try.ntmps63
    go_wp2_with (go_at_call 89; refine (HC.out _).mono ?_; rintro e w1 ⟨rfl, rfl⟩)
    go_ret
    exact ⟨_, rfl, ⟨none, 0, rfl, Nat.le_refl _, Nat.zero_le _, fun j hj => absurd hj (by simp)⟩, Below.refl _ _⟩
  | true =>
    rw [hcd] at HC
    have hc0 : 0 ≤ c ∧ c ≤ 1114111 := by unfold codeI at hcd; simp at hcd; omega
    obtain ⟨n, rfl⟩ := Int.eq_ofNat_of_zero_le hc0.1
    rw [codeI_nat] at hcd
    have hp : putI (n : Int) = Uf.put n := by unfold putI; rw [codeI_nat, hcd]; rfl
    rw [hp]
    have hn : n ≤ 1114111 := by omega
    unfold Uf.put
    rw [hcd, if_neg (by simp)]
    clear hp hcd hc0
    have q1 : (n : Int).tdiv 64 = (n : Int) / 64 := Int.tdiv_eq_ediv_of_nonneg (by omega)
    have q2 : (n : Int).tmod 64 = (n : Int) % 64 := Int.tmod_eq_emod_of_nonneg (by omega)
    have q3 : (n : Int).tdiv 4096 = (n : Int) / 4096 := Int.tdiv_eq_ediv_of_nonneg (by omega)
    have q4 : (n : Int).tdiv 262144 = (n : Int) / 262144 := Int.tdiv_eq_ediv_of_nonneg (by omega)
    have q5 : ((n : Int) / 64).tmod 64 = (n : Int) / 64 % 64 := Int.tmod_eq_emod_of_nonneg (by omega)
    have q6 : ((n : Int) / 4096).tmod 64 = (n : Int) / 4096 % 64 := Int.tmod_eq_emod_of_nonneg (by omega)
    by_cases h1 : n < 128
    · rw [if_pos h1]
      have t1 : decide ((n : Int) < 128) = true := decide_eq_true (by omega)
      go_enter Try.func63, Try.ntmps63
      go_wp2_with (go_at_call 89; refine (HC.out _).mono ?_; rintro e w1 ⟨rfl, rfl⟩)
      go_ret
      exact ⟨_, rfl, cells_bytes _ _ _ (by simp; try omega) _ (by unfold maxLen; simp) _ rfl, (Below.refl _ w1).alloc (Nat.le_refl _) _⟩
    · rw [if_neg h1]
      have t1 : decide ((n : Int) < 128) = false := decide_eq_false (by omega)
      by_cases h2 : n < 2048
      · rw [if_pos h2]
        have t2 : decide ((n : Int) < 2048) = true := decide_eq_true (by omega)
        clear h1
        go_enter Try.func63, Try.ntmps63
        go_wp2_with (go_at_call 89; refine (HC.out _).mono ?_; rintro e w1 ⟨rfl, rfl⟩)
        go_ret
        exact ⟨_, rfl, cells_bytes _ _ _ (by simp; try omega) _ (by unfold maxLen; simp) _ rfl, (Below.refl _ w1).alloc (Nat.le_refl _) _⟩
      · rw [if_neg h2]
        have t2 : decide ((n : Int) < 2048) = false := decide_eq_false (by omega)
        by_cases h3 : n < 65536
        · rw [if_pos h3]
          have t3 : decide ((n : Int) < 65536) = true := decide_eq_true (by omega)
          have w1 : ((224 : Int) + (n : Int) / 4096) % 256 = 224 + (n : Int) / 4096 := by omega
          clear h1 h2 h3
          go_enter Try.func63, Try.ntmps63
          go_wp2_with (go_at_call 89; refine (HC.out _).mono ?_; rintro e w1 ⟨rfl, rfl⟩)
          go_ret
          exact ⟨_, rfl, cells_bytes _ _ _ (by simp; try omega) _ (by unfold maxLen; simp) _ rfl, (Below.refl _ _).alloc (Nat.le_refl _) _⟩
        · rw [if_neg h3]
          have t3 : decide ((n : Int) < 65536) = false := decide_eq_false (by omega)
          have w1 : ((240 : Int) + (n : Int) / 262144) % 256 = 240 + (n : Int) / 262144 := by omega
          clear h1 h2 h3
          go_enter Try.func63, Try.ntmps63
          go_wp2_with (go_at_call 89; refine (HC.out _).mono ?_; rintro e w1 ⟨rfl, rfl⟩)
          go_ret
          exact ⟨_, rfl, cells_bytes _ _ _ (by simp; try omega) _ (by unfold maxLen; simp) _ rfl, (Below.refl _ _).alloc (Nat.le_refl _) _⟩

def BbR (a b : List UInt8) (w0 : World) (i : Value) (w : World) : Prop :=
  ∃ k : Nat, k ≤ a.length ∧ i = .int .i64 (k : Int) ∧ Below w0.heap.size w0 w ∧ Hid (a.take k = b.take k)
theorem take_ext {α : Type} {a b : List α} {k : Nat} (h : a.take k = b.take k) (ha : k < a.length) (hb : k < b.length) (he : a[k] = b[k]) : a.take (k + 1) = b.take (k + 1) := by
  rw [List.take_add_one, List.take_add_one, h, List.getElem?_eq_getElem ha, List.getElem?_eq_getElem hb, he]
set_option maxHeartbeats 2000000 in
theorem bytes_any (v1 v2 : Value) (a b : List UInt8) (w : World) (h1 : BytesV w v1 a) (h2 : BytesV w v2 b) (hn : a.length ≤ 4294967296) (hn2 : b.length ≤ 4294967296) :
    Calls Try.prog 62 #[v1, v2] w fun e w' => e = .returned (.bool (decide (a = b))) ∧ Below w.heap.size w w' := by
  obtain ⟨p1, c1, rfl, _, _, hf1⟩ := h1
  obtain ⟨p2, c2, rfl, _, _, hf2⟩ := h2
  by_cases hl : a.length = b.length
  · have t0 : ((a.length : Int) != (b.length : Int)) = false := by rw [hl]; simp
    go_enter Try.func62, Try.ntmps62
    go_wp2
    go_loopw [5] (BbR a b w) (fun i _ => a.length - (intOf i).toNat)
    case atStart => exact ⟨0, Nat.zero_le _, by go_num, Below.refl _ _, by unfold Hid; simp⟩
    case round =>
      obtain ⟨k, hk, rfl, hbl, HE⟩ := hrel
      by_cases hlt : k < a.length
      · obtain ⟨b1, o1, rfl, hc1⟩ := hf1 k hlt
        obtain ⟨b2, o2, rfl, hc2⟩ := hf2 k (by omega)
        have htx : a[k] = b[k] → a.take (k + 1) = b.take (k + 1) := fun h => take_ext HE.out hlt (by omega) h
        have hnx : a[k] ≠ b[k] → decide (a = b) = false := fun h => decide_eq_false (fun e => h (by subst e; rfl))
        generalize a[k] = ra at *
        generalize b[k] = rb at *
        have HT := Lib.hid htx
        have HN := Lib.hid hnx
        clear htx hnx
        have e1 := cell_below hbl hc1
        have e2 := cell_below hbl hc2
        have i1 : (0 : Int) ≤ (k : Int) := by omega
        have i2 : (k : Int) < (a.length : Int) := by omega
        have i3 : (k : Int) < (b.length : Int) := by omega
        by_cases hff : ra = rb
        · have t3 : ((ra.toNat : Int) != (rb.toNat : Int)) = false := by rw [hff]; simp
          have HH := Lib.hid (HT.out hff)
          clear hff
          go_wp2
          go_quiet (fail)
          go_wp2
          go_roundw
          case rel => exact ⟨k + 1, by omega, by go_num, below_drewN hbl _, HH⟩
          case measure => simp [intOf]; omega
        · have t3 : ((ra.toNat : Int) != (rb.toNat : Int)) = true := by
            rw [bne_iff_ne]; intro h; exact hff (UInt8.toNat_inj.1 (by omega))
          have HA := Lib.hid (HN.out hff)
          clear hff
          go_wp2
          go_quiet (fail)
          go_wp2
          go_ret
          exact ⟨ret_b HA.out.symm, below_drewN hbl _⟩
      · have hee : a = b := by
          have := HE.out
          obtain rfl : k = a.length := by omega
          rw [List.take_length, hl, List.take_length] at this
          exact this
        have HA := Lib.hid (decide_eq_true hee)
        clear hee
        go_wp2
        go_ret
        exact ⟨ret_b HA.out.symm, hbl⟩
  · have t0 : ((a.length : Int) != (b.length : Int)) = true := by rw [bne_iff_ne]; omega
    have HA : Hid (decide (a = b) = false) := decide_eq_false (fun e => hl (by rw [e]))
    clear hl
    go_enter Try.func62, Try.ntmps62
    go_wp2
    go_ret
    exact ⟨ret_b HA.out.symm, Below.refl _ _⟩

end Go.Proofs.Ythbpkmmnoeikoaa
