/-
  The program's utf.Put: a code's bytes; none of what is no code.
-/
import Derived.Test.YthbpkmmnoeikoaaUtfGet
import Derived.LoopN
import Derived.Deep.OwnRows
namespace Go.Proofs.Ythbpkmmnoeikoaa
open Go Go.RowKit Go.Deep
set_option linter.unusedVariables false
set_option linter.unusedSimpArgs false

/-- a code's bytes; none of what is no code -/
def putI (c : Int) : List UInt8 := if codeI c then Uf.put c.toNat else []

theorem hi_or (h k : Nat) (c : Nat) (hk : c < 2 ^ k) (hh : h % 2 ^ k = 0) (hs : h < 4294967296) (hc : c < 4294967296) : bits .or .i64 (h : Int) (c : Int) = ((h + c : Nat) : Int) := by
  rw [i64_or_nat h c (by omega) (by omega), nat_join k h c hh hk]

theorem infoU8 : (Try.prog.info? 5).map (fun i => (i.zero, i.size, i.bytes)) = some (some (.int .u8 0), 1, 1) := by kernel_rfl
theorem make_k (k : Nat) (hk : k ≤ 4) (W : World) : (Instr.makeSlice 67 (.int .i64 (k : Int)) (.int .i64 (k : Int))).run Try.prog W = .ok (.slice (some ⟨W.heap.size, 0, none⟩) k k) (W.alloc (.cells (madeCells #[.int .u8 0] k) 5)) :=
  run_make_row' 67 5 (.int .u8 0) 1 Try.underlying67 infoU8 rfl .i64 .i64 k (by omega) (by omega) W
theorem make_1 (W : World) : (Instr.makeSlice 67 (.int .i64 1) (.int .i64 1)).run Try.prog W = .ok (.slice (some ⟨W.heap.size, 0, none⟩) 1 1) (W.alloc (.cells #[.int .u8 0] 5)) := (make_k 1 (by decide) W).trans (by rw [show madeCells #[Value.int .u8 0] 1 = #[Value.int .u8 0] from by kernel_rfl])
theorem make_2 (W : World) : (Instr.makeSlice 67 (.int .i64 2) (.int .i64 2)).run Try.prog W = .ok (.slice (some ⟨W.heap.size, 0, none⟩) 2 2) (W.alloc (.cells #[.int .u8 0, .int .u8 0] 5)) := (make_k 2 (by decide) W).trans (by rw [show madeCells #[Value.int .u8 0] 2 = #[Value.int .u8 0, Value.int .u8 0] from by kernel_rfl])
theorem make_3 (W : World) : (Instr.makeSlice 67 (.int .i64 3) (.int .i64 3)).run Try.prog W = .ok (.slice (some ⟨W.heap.size, 0, none⟩) 3 3) (W.alloc (.cells #[.int .u8 0, .int .u8 0, .int .u8 0] 5)) := (make_k 3 (by decide) W).trans (by rw [show madeCells #[Value.int .u8 0] 3 = #[Value.int .u8 0, Value.int .u8 0, Value.int .u8 0] from by kernel_rfl])
theorem make_4 (W : World) : (Instr.makeSlice 67 (.int .i64 4) (.int .i64 4)).run Try.prog W = .ok (.slice (some ⟨W.heap.size, 0, none⟩) 4 4) (W.alloc (.cells #[.int .u8 0, .int .u8 0, .int .u8 0, .int .u8 0] 5)) := (make_k 4 (by decide) W).trans (by rw [show madeCells #[Value.int .u8 0] 4 = #[Value.int .u8 0, Value.int .u8 0, Value.int .u8 0, Value.int .u8 0] from by kernel_rfl])
theorem low6 (c : Nat) (hc : c ≤ 1114111) : bits .and .i64 (c : Int) 63 = (c : Int) % 64 := by
  have := i64_and_nat c 63 (by omega) (by decide)
  rw [nat_mask6] at this
  simpa using this
theorem or128 (x : Nat) (hx : x < 64) : bits .or .i64 128 (x : Int) = 128 + (x : Int) := by
  have := hi_or 128 6 x hx (by decide) (by decide) (by omega)
  simpa using this

theorem cells_bytes (W : World) (xs : List UInt8) (cs : Array Value) (h : cs = (xs.map (fun (b : UInt8) => Value.int .u8 (b.toNat : Int))).toArray) (t : TypeId) (hm : xs.length ≤ maxLen) (k : Nat) (hk : k = xs.length) : BytesV (W.alloc (.cells cs t)) (.slice (some ⟨W.heap.size, 0, none⟩) k k) xs := by
  subst hk
  refine ⟨_, _, rfl, Nat.le_refl _, hm, fun j hj => ⟨W.heap.size, 0, rfl, ?_⟩⟩
  subst h
  rw [Nat.zero_add, cell_of_row _ _ j _ _ (0, 0) (heap_alloc_new W _)]
  simp [hj]
theorem u8n (n : Nat) (h : n < 256) : ((UInt8.ofNat n).toNat : Int) = (n : Int) := by rw [UInt8.toNat_ofNat']; omega
theorem hi6 (h k n : Nat) (hk : n < 2 ^ k) (hh : h % 2 ^ k = 0) (hs : h + n < 256) (hh2 : 0 < h) : bits .or .i64 (h : Int) (n : Int) % 256 = (h : Int) + (n : Int) := by
  rw [hi_or h k n hk hh (by omega) (by omega)]; omega

set_option maxRecDepth 100000 in
set_option maxHeartbeats 2000000 in
theorem put_any (c : Int) (w : World) :
    Calls Try.prog 104 #[.int .i64 c] w fun e w' => ∃ v, e = .returned v ∧ BytesV w' v (putI c) ∧ Below w.heap.size w w' := by
  cases hcd : codeI c with
  | false =>
    have hp : putI c = [] := by unfold putI; rw [hcd]; rfl
    rw [hp]
    have HC := Lib.hid (fun W => code_any c W)
    rw [hcd] at HC
    clear hp hcd
    go_enter Try.func104, Try.ntmps104
    go_wp2_with (go_at_call 107; refine (HC.out _).mono ?_; rintro e w1 ⟨rfl, rfl⟩)
    go_ret
    exact ⟨_, rfl, ⟨none, 0, rfl, Nat.le_refl _, Nat.zero_le _, fun j hj => absurd hj (by simp)⟩, Below.refl _ _⟩
  | true =>
    have HC := Lib.hid (fun W => code_any c W)
    rw [hcd] at HC
    have hc0 : 0 ≤ c ∧ c ≤ 1114111 := by unfold codeI at hcd; simp at hcd; omega
    obtain ⟨n, rfl⟩ := Int.eq_ofNat_of_zero_le hc0.1
    rw [codeI_nat] at hcd
    have hp : putI (n : Int) = Uf.put n := by unfold putI; rw [codeI_nat, hcd]; rfl
    rw [hp]
    have hn : n ≤ 1114111 := by omega
    have HL := Lib.hid (fun W => long_any n W (by omega))
    unfold Uf.put
    rw [hcd, if_neg (by simp)]
    unfold Uf.long longH at HL
    clear hp hcd hc0
    by_cases h1 : n < 128
    · rw [if_pos h1]
      rw [if_pos h1, if_pos h1] at HL
      have t1 : bits .or .i64 (0 : Int) (n : Int) = (n : Int) := by have := hi_or 0 7 n (by omega) (by decide) (by decide) (by omega); simpa using this
      have t2 : (n : Int) % 256 = (n : Int) := by omega
      have mk := make_1
      go_enter Try.func104, Try.ntmps104
      go_wp2_with (first | (go_at_call 107; refine (HC.out _).mono ?_; rintro e w1 ⟨rfl, rfl⟩) | (go_at_call 106; refine (HL.out _).mono ?_; rintro e w1 ⟨rfl, rfl⟩))
      refine wp_loop_rounds 1 ?_
      rw [rounds_succ]
      go_wp2
      go_ret
      exact ⟨_, rfl, cells_bytes _ _ _ (by simp; omega) _ (by unfold maxLen; simp) _ rfl, (Below.refl _ w1).alloc (Nat.le_refl _) _⟩
    · rw [if_neg h1]
      rw [if_neg h1, if_neg h1] at HL
      by_cases h2 : n < 2048
      · rw [if_pos h2]
        rw [if_pos h2, if_pos h2] at HL
        have mk := make_2
        have a0 := low6 n (by omega)
        have o0 := or128 (n % 64) (by omega)
        have h0 := hi6 192 5 (n / 64) (by omega) (by decide) (by omega) (by decide)
        simp at o0 h0
        go_enter Try.func104, Try.ntmps104
        go_wp2_with (first | (go_at_call 107; refine (HC.out _).mono ?_; rintro e w1 ⟨rfl, rfl⟩) | (go_at_call 106; refine (HL.out _).mono ?_; rintro e w1 ⟨rfl, rfl⟩))
        refine wp_loop_rounds 2 ?_
        rw [rounds_succ]
        go_wp2
        rw [rounds_succ]
        go_wp2
        go_ret
        exact ⟨_, rfl, cells_bytes _ _ _ (by simp; omega) _ (by unfold maxLen; simp) _ rfl, (Below.refl _ w1).alloc (Nat.le_refl _) _⟩
      · rw [if_neg h2]
        rw [if_neg h2, if_neg h2] at HL
        by_cases h3 : n < 65536
        · rw [if_pos h3]
          rw [if_pos h3, if_pos h3] at HL
          have mk := make_3
          have a0 := low6 n (by omega)
          have a1 := low6 (n / 64) (by omega)
          have o0 := or128 (n % 64) (by omega)
          have o1 := or128 (n / 64 % 64) (by omega)
          have h0 := hi6 224 4 (n / 4096) (by omega) (by decide) (by omega) (by decide)
          have h64 : (n : Int) / 64 / 64 = (n : Int) / 4096 := by omega
          simp at o0 o1 h0 a1
          clear h1 h2 h3 hn
          go_enter Try.func104, Try.ntmps104
          go_wp2_with (first | (go_at_call 107; refine (HC.out _).mono ?_; rintro e w1 ⟨rfl, rfl⟩) | (go_at_call 106; refine (HL.out _).mono ?_; rintro e w1 ⟨rfl, rfl⟩))
          refine wp_loop_rounds 3 ?_
          rw [rounds_succ]
          go_wp2
          rw [rounds_succ]
          go_wp2
          rw [rounds_succ]
          go_wp2
          go_ret
          exact ⟨_, rfl, cells_bytes _ _ _ (by simp; omega) _ (by unfold maxLen; simp) _ rfl, (Below.refl _ w1).alloc (Nat.le_refl _) _⟩
        · rw [if_neg h3]
          rw [if_neg h3, if_neg h3] at HL
          have mk := make_4
          have a0 := low6 n (by omega)
          have a1 := low6 (n / 64) (by omega)
          have a2 := low6 (n / 4096) (by omega)
          have o0 := or128 (n % 64) (by omega)
          have o1 := or128 (n / 64 % 64) (by omega)
          have o2 := or128 (n / 4096 % 64) (by omega)
          have h0 := hi6 240 4 (n / 262144) (by omega) (by decide) (by omega) (by decide)
          have h64 : (n : Int) / 64 / 64 = (n : Int) / 4096 := by omega
          have h65 : (n : Int) / 4096 / 64 = (n : Int) / 262144 := by omega
          simp at o0 o1 o2 h0 a1 a2
          clear h1 h2 h3
          go_enter Try.func104, Try.ntmps104
          go_wp2_with (first | (go_at_call 107; refine (HC.out _).mono ?_; rintro e w1 ⟨rfl, rfl⟩) | (go_at_call 106; refine (HL.out _).mono ?_; rintro e w1 ⟨rfl, rfl⟩))
          refine wp_loop_rounds 4 ?_
          rw [rounds_succ]
          go_wp2
          rw [rounds_succ]
          go_wp2
          rw [rounds_succ]
          go_wp2
          rw [rounds_succ]
          go_wp2
          go_ret
          exact ⟨_, rfl, cells_bytes _ _ _ (by simp; omega) _ (by unfold maxLen; simp) _ rfl, (Below.refl _ w1).alloc (Nat.le_refl _) _⟩

end Go.Proofs.Ythbpkmmnoeikoaa
