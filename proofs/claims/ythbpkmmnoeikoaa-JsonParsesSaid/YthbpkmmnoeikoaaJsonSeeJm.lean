/-
  The reference's reader: its block, fail, step. Condition: the reader lies as SeC says; a text shorter than 2^32 - 15 bytes.
-/
import Derived.Test.YthbpkmmnoeikoaaJsonReadJm
import Derived.Test.YthbpkmmnoeikoaaTokRNextJm
namespace Go.Proofs.Ythbpkmmnoeikoaa
open Go Go.RowKit
set_option linter.unusedVariables false
set_option linter.unusedSimpArgs false

/-- the reference's reader: its text, where something is wrong, the error, the token that is next -/
def SeC (W : World) (rb : Nat) (s : ByteArray) (a er : Int) (t : Tk.Tok) : Prop :=
  W.heap[rb]? = some (.cells #[.string s, .int .i64 a, .int .i64 er, .int .i64 (t.kind : Int), .int .i64 (t.at' : Int), .int .i64 (t.end' : Int), str t.s, .int .i64 t.n, .int .i64 (t.end' : Int)] 86 (0, 0))
theorem se_cells {W : World} {rb : Nat} {s : ByteArray} {a er : Int} {t : Tk.Tok} (h : SeC W rb s a er t) :
    W.cell? ⟨rb, 0, none⟩ = some (.string s) ∧ W.cell? ⟨rb, 1, none⟩ = some (.int .i64 a) ∧ W.cell? ⟨rb, 2, none⟩ = some (.int .i64 er) ∧ W.cell? ⟨rb, 3, none⟩ = some (.int .i64 (t.kind : Int)) ∧ W.cell? ⟨rb, 4, none⟩ = some (.int .i64 (t.at' : Int)) ∧
    W.cell? ⟨rb, 5, none⟩ = some (.int .i64 (t.end' : Int)) ∧ W.cell? ⟨rb, 6, none⟩ = some (str t.s) ∧ W.cell? ⟨rb, 7, none⟩ = some (.int .i64 t.n) ∧ W.cell? ⟨rb, 8, none⟩ = some (.int .i64 (t.end' : Int)) :=
  ⟨(cell_of_row _ _ 0 _ _ (0, 0) h).trans rfl, (cell_of_row _ _ 1 _ _ (0, 0) h).trans rfl, (cell_of_row _ _ 2 _ _ (0, 0) h).trans rfl, (cell_of_row _ _ 3 _ _ (0, 0) h).trans rfl, (cell_of_row _ _ 4 _ _ (0, 0) h).trans rfl, (cell_of_row _ _ 5 _ _ (0, 0) h).trans rfl, (cell_of_row _ _ 6 _ _ (0, 0) h).trans rfl, (cell_of_row _ _ 7 _ _ (0, 0) h).trans rfl, (cell_of_row _ _ 8 _ _ (0, 0) h).trans rfl⟩
theorem se_frozen {W : World} {rb : Nat} {s : ByteArray} {a er : Int} {t : Tk.Tok} (h : SeC W rb s a er t) (j : Nat) : W.frozen? ⟨rb, j, none⟩ = false := by
  unfold SeC at h
  simp [World.frozen?, h]

set_option maxRecDepth 100000 in
set_option maxHeartbeats 4000000 in
theorem sfail_any (s : ByteArray) (rb : Nat) (a er n : Int) (t : Tk.Tok) (w : World) (hr : SeC w rb s a er t) :
    Calls Try.prog 52 #[.pointer (some ⟨rb, 0, none⟩), .int .i64 n] w fun e w' => e = .returned (.tuple #[]) ∧ w.grownBy w' (some rb) ∧ SeC w' rb s (if er = 0 then (t.at' : Int) else a) (if er = 0 then n else er) t := by
  obtain ⟨c0, c1, c2, c3, c4, c5, c6, c7, c8⟩ := se_cells hr
  have f1 := se_frozen hr 1
  have f2 := se_frozen hr 2
  by_cases h : er = 0
  · subst h
    rw [if_pos rfl, if_pos rfl]
    go_enter Try.func52, Try.ntmps52
    go_wp2
    go_end0
    exact ⟨rfl, gb_set (gb_set (gb_of (Below.refl _ _)) 1 _) 2 _, row_set (row_set hr 1 _) 2 _⟩
  · rw [if_neg h, if_neg h]
    have t1 : (er == 0) = false := by simp [h]
    clear h
    go_enter Try.func52, Try.ntmps52
    go_wp2
    go_end0
    exact ⟨rfl, gb_of (Below.refl _ _), hr⟩

end Go.Proofs.Ythbpkmmnoeikoaa
