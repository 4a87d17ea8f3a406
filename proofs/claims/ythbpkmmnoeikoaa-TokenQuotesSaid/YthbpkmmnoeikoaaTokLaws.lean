/-
  The walks of TokenNext and TokenAll. Condition: each law's own.
-/
import Derived.Test.YthbpkmmnoeikoaaTokAlive
import Derived.Test.YthbpkmmnoeikoaaTokRAll
import Derived.Test.YthbpkmmnoeikoaaTokRQuote
namespace Go.Proofs.Ythbpkmmnoeikoaa
open Go Go.RowKit
set_option linter.unusedVariables false
set_option linter.unusedSimpArgs false

set_option maxRecDepth 100000 in
set_option maxHeartbeats 2000000 in
theorem next_big (s : ByteArray) (at1 : Int) (w : World) (ha : (s.size : Int) < at1) :
    Calls Try.prog 33 #[.string s, .int .i64 at1] w fun e w' => e = .returned (.tuple #[tokV Tk.zero, .int .i64 at1, .int .i64 1]) ∧ Below w.heap.size w w' := by
  have t0 : decide (at1 < 0) = false := decide_eq_false (by omega)
  have t1 : decide (at1 > (s.size : Int)) = true := decide_eq_true (by omega)
  go_enter Try.func33, Try.ntmps33
  go_wp2
  go_step3
  go_wp2
  rw [Exit.noGoto_ret]
  have hh := heap_alloc_new w (.cells #[.int .i64 0, .int .i64 0, .int .i64 0, .string ⟨#[]⟩, .int .i64 0] 52)
  obtain ⟨e0, e1, e2, e3, e4⟩ := tok_cells hh
  have hb := (Below.refl w.heap.size w).alloc (Nat.le_refl _) (.cells #[.int .i64 0, .int .i64 0, .int .i64 0, .string ⟨#[]⟩, .int .i64 0] 52)
  generalize w.alloc (.cells #[.int .i64 0, .int .i64 0, .int .i64 0, .string ⟨#[]⟩, .int .i64 0] 52) = W at *
  exact bodyPost_ret (v := .tuple #[tokV Tk.zero, .int .i64 at1, .int .i64 1]) (by simp [results, Try.results33, go_sem, tokV, Tk.zero, bs, e0, e1, e2, e3, e4]) rfl ⟨rfl, hb⟩

theorem two_blk {w2 w3 : World} (c : Array Value) (hb : Below (w2.alloc (.cells c 52)).heap.size (w2.alloc (.cells c 52)) w3) {c' : Array Value} :
    (w3.alloc (.cells c' 52)).heap[w2.heap.size]? = some (.cells c 52 (0, 0)) := by
  have h1 := (hb.block w2.heap.size (by simp)).trans (heap_alloc_new w2 (.cells c 52))
  exact (Below.heap_alloc _ _ _ (lt_of_some h1)).trans h1
theorem two_blk_below {w w1 w2 w3 : World} {c c' : Array Value} (h1 : Below w.heap.size w w1) (h2 : Below w1.heap.size w1 w2) (h3 : Below (w2.alloc (.cells c 52)).heap.size (w2.alloc (.cells c 52)) w3) :
    Below w.heap.size w (w3.alloc (.cells c' 52)) := by
  have k1 := chain h1 h2
  have k2 := chain (k1.alloc k1.size (.cells c 52)) h3
  exact k2.alloc k2.size _

theorem two_cells {w2 w3 : World} (t : Tk.Tok) (hb : Below (w2.alloc (.cells #[.int .i64 (t.kind : Int), .int .i64 (t.at' : Int), .int .i64 (t.end' : Int), str t.s, .int .i64 t.n] 52)).heap.size (w2.alloc (.cells #[.int .i64 (t.kind : Int), .int .i64 (t.at' : Int), .int .i64 (t.end' : Int), str t.s, .int .i64 t.n] 52)) w3) :
    (w3.alloc (.cells #[.int .i64 (t.kind : Int), .int .i64 (t.at' : Int), .int .i64 (t.end' : Int), str t.s, .int .i64 t.n] 52)).cell? ⟨w2.heap.size, 0, none⟩ = some (.int .i64 (t.kind : Int)) ∧
    (w3.alloc (.cells #[.int .i64 (t.kind : Int), .int .i64 (t.at' : Int), .int .i64 (t.end' : Int), str t.s, .int .i64 t.n] 52)).cell? ⟨w2.heap.size, 1, none⟩ = some (.int .i64 (t.at' : Int)) ∧
    (w3.alloc (.cells #[.int .i64 (t.kind : Int), .int .i64 (t.at' : Int), .int .i64 (t.end' : Int), str t.s, .int .i64 t.n] 52)).cell? ⟨w2.heap.size, 2, none⟩ = some (.int .i64 (t.end' : Int)) ∧
    (w3.alloc (.cells #[.int .i64 (t.kind : Int), .int .i64 (t.at' : Int), .int .i64 (t.end' : Int), str t.s, .int .i64 t.n] 52)).cell? ⟨w2.heap.size, 3, none⟩ = some (str t.s) ∧
    (w3.alloc (.cells #[.int .i64 (t.kind : Int), .int .i64 (t.at' : Int), .int .i64 (t.end' : Int), str t.s, .int .i64 t.n] 52)).cell? ⟨w2.heap.size, 4, none⟩ = some (.int .i64 t.n) ∧
    (w3.alloc (.cells #[.int .i64 (t.kind : Int), .int .i64 (t.at' : Int), .int .i64 (t.end' : Int), str t.s, .int .i64 t.n] 52)).cell? ⟨w3.heap.size, 0, none⟩ = some (.int .i64 (t.kind : Int)) ∧
    (w3.alloc (.cells #[.int .i64 (t.kind : Int), .int .i64 (t.at' : Int), .int .i64 (t.end' : Int), str t.s, .int .i64 t.n] 52)).cell? ⟨w3.heap.size, 1, none⟩ = some (.int .i64 (t.at' : Int)) ∧
    (w3.alloc (.cells #[.int .i64 (t.kind : Int), .int .i64 (t.at' : Int), .int .i64 (t.end' : Int), str t.s, .int .i64 t.n] 52)).cell? ⟨w3.heap.size, 2, none⟩ = some (.int .i64 (t.end' : Int)) ∧
    (w3.alloc (.cells #[.int .i64 (t.kind : Int), .int .i64 (t.at' : Int), .int .i64 (t.end' : Int), str t.s, .int .i64 t.n] 52)).cell? ⟨w3.heap.size, 3, none⟩ = some (str t.s) ∧
    (w3.alloc (.cells #[.int .i64 (t.kind : Int), .int .i64 (t.at' : Int), .int .i64 (t.end' : Int), str t.s, .int .i64 t.n] 52)).cell? ⟨w3.heap.size, 4, none⟩ = some (.int .i64 t.n) := by
  obtain ⟨z0, z1, z2, z3, z4⟩ := tok_cells (two_blk (tokCells t) hb (c' := tokCells t))
  obtain ⟨y0, y1, y2, y3, y4⟩ := tok_cells (heap_alloc_new w3 (.cells (tokCells t) 52))
  exact ⟨z0, z1, z2, z3, z4, y0, y1, y2, y3, y4⟩

/-- both give the same -/
theorem next_both (s : ByteArray) (at1 : Int) (hs : s.size ≤ 4294967280) : ∃ (t : Tk.Tok) (x f : Int),
    (∀ w, Calls Try.prog 33 #[.string s, .int .i64 at1] w fun e w' => e = .returned (.tuple #[tokV t, .int .i64 x, .int .i64 f]) ∧ Below w.heap.size w w') ∧
    (∀ w, Calls Try.prog 34 #[.string s, .int .i64 at1] w fun e w' => e = .returned (.tuple #[tokV t, .int .i64 x, .int .i64 f]) ∧ Below w.heap.size w w') := by
  by_cases h0 : at1 < 0
  · exact ⟨Tk.zero, at1, 1, fun w => next_neg s at1 w h0, fun w => rnext_out s at1 w (.inl h0)⟩
  by_cases h1 : (s.size : Int) < at1
  · exact ⟨Tk.zero, at1, 1, fun w => next_big s at1 w h1, fun w => rnext_out s at1 w (.inr h1)⟩
  obtain ⟨a, rfl⟩ := Int.eq_ofNat_of_zero_le (show 0 ≤ at1 by omega)
  exact ⟨_, _, _, fun w => next_pos s a w hs (by omega), fun w => rnext_pos s a w hs (by omega)⟩

set_option maxRecDepth 100000 in
set_option maxHeartbeats 4000000 in
theorem tokenNext_walk (s : ByteArray) (at1 : Int) (w : World) (hs : s.size ≤ maxLen) (h1 : -9223372036854775808 ≤ at1) (h2 : at1 ≤ 9223372036854775807) :
    Calls Try.prog 10 #[.string s, .int .i64 at1] w fun e w' => e = .returned (.bool true) ∧ Below w.heap.size w w' := by
  have HA := Lib.hid alive_any
  by_cases hl : s.size > 500
  · have t5 : decide ((s.size : Int) > 500) = true := decide_eq_true (by omega)
    go_enter Try.func10, Try.ntmps10
    go_wp2_with (go_at_call 32; with_reducible refine (HA.out _).mono ?_; rintro e w1 ⟨rfl, hb1⟩)
    go_ret
    exact ⟨rfl, hb1⟩
  · have t5 : decide ((s.size : Int) > 500) = false := decide_eq_false (by omega)
    obtain ⟨t, x, f, h3, h4⟩ := next_both s at1 (by omega)
    have HN := Lib.hid h3
    have HR := Lib.hid h4
    clear h3 h4 hl
    unfold tokV at HN HR
    go_enter Try.func10, Try.ntmps10
    go_wp2_with (first
      | (go_at_call 32; with_reducible refine (HA.out _).mono ?_; rintro e w1 ⟨rfl, hb1⟩)
      | (go_at_call 33; with_reducible refine (HN.out _).mono ?_; rintro e w2 ⟨rfl, hb2⟩)
      | (go_at_call 34; with_reducible refine (HR.out _).mono ?_; rintro e w3 ⟨rfl, hb3⟩; obtain ⟨z0, z1, z2, z3, z4, y0, y1, y2, y3, y4⟩ := two_cells t hb3))
    go_ret
    exact ⟨rfl, two_blk_below hb1 hb2 hb3⟩

end Go.Proofs.Ythbpkmmnoeikoaa
