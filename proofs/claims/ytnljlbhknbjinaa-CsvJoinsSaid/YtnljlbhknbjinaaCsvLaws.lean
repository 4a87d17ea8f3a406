/-
  The laws of layer 9 on texts, walked: each answers true. Condition: the texts are no longer than an int.
-/
import Derived.Test.YtnljlbhknbjinaaCsvAlive
import Derived.Test.YtnljlbhknbjinaaCsvRParse
namespace Go.Proofs.Ytnljlbhknbjinaa
open Go.RowKit
set_option linter.unusedVariables false
set_option linter.unusedSimpArgs false

theorem parse_bounds (l : Cs.F) : (Cs.parse l).1.length ≤ l.length + 1 ∧ ∀ r ∈ (Cs.parse l).1, r.length ≤ l.length + 1 := by
  by_cases hl : l = []
  · subst hl; simp [Cs.parse]
  · rcases Cs.prs_pcs (l.length + 1) l 0 [] [] ([], true) (by omega) (.inl ⟨rfl, rfl⟩) with ⟨p2, p, e1, e2, e3, e4⟩ | ⟨e1, e2⟩
    · have hp : Cs.parse l = Cs.prs (l.length + 1) l 0 [] [] := by unfold Cs.parse; rw [if_neg hl]
      rw [hp, e4]; simp
    · rw [parse_done hl e1]
      have h1 := bld_len _ (Cs.pcs (l.length + 1) l 0) rfl
      have h2 := pcs_len (l.length + 1) l 0
      exact ⟨Nat.le_trans h1.1 h2, fun r hr => Nat.le_trans (h1.2 r hr) h2⟩

set_option maxHeartbeats 2000000 in
theorem parses_walk (s : ByteArray) (w : World) (hs : s.size ≤ maxLen) :
    Calls Try.prog 3 #[.string s] w fun e w' => e = .returned (.bool true) ∧ Below w.heap.size w w' := by
  by_cases h : s.size ≤ 1000
  · have t0 : (decide ((s.size : Int) > 1000)) = false := decide_eq_false (by omega)
    obtain ⟨q1, q2⟩ := parse_bounds s.data.toList
    rw [len_data] at q1 q2
    have hp1 := fun W => parse_any s W (by omega)
    have hp2 := fun W => rparse_any s W (by omega)
    generalize Cs.parse s.data.toList = p at *
    obtain ⟨rows, at1, er⟩ := p
    have hq : Hid (∀ W v1 v2, RowsV W v1 rows → RowsV W v2 rows → Calls Try.prog 12 #[v1, v2] W fun e w' => e = .returned (.bool true) ∧ Below W.heap.size W w') := fun W v1 v2 h1 h2 => by
      refine (same_any v1 v2 rows rows W h1 h2 (by dsimp only at q1; omega) (by dsimp only at q1; omega) (fun r hr => by have := q2 r hr; omega) (fun r hr => by have := q2 r hr; omega)).mono ?_
      rintro e w' ⟨rfl, hb⟩
      exact ⟨ret_b (by simp), hb⟩
    have HP1 := Lib.hid hp1
    have HP2 := Lib.hid hp2
    clear hp1 hp2 q1 q2
    dsimp only at HP1 HP2
    go_enter Try.func3, Try.ntmps3
    go_wp2_with (first
      | (go_at_call 9; refine (alive_any _).mono ?_; rintro e w1 ⟨rfl, hb1⟩)
      | (go_at_call 10; refine (HP1.out _).mono ?_; rintro e w2 ⟨v1, rfl, hv1, hb2⟩)
      | (go_at_call 11; refine (HP2.out _).mono ?_; rintro e w3 ⟨v2, rfl, hv2, hb3⟩; have hv3 := hv1.below hb3)
      | (go_at_call 12; refine (hq.out _ _ _ hv3 hv2).mono ?_; rintro e w4 ⟨rfl, hb4⟩))
    go_ret
    exact ⟨rfl, ((hb1.trans (hb2.mono hb1.size)).trans (hb3.mono (Nat.le_trans hb1.size hb2.size))).trans (hb4.mono (Nat.le_trans (Nat.le_trans hb1.size hb2.size) hb3.size))⟩
  · have t0 : (decide ((s.size : Int) > 1000)) = true := decide_eq_true (by omega)
    go_enter Try.func3, Try.ntmps3
    go_wp2_with (go_at_call 9; refine (alive_any _).mono ?_; rintro e w1 ⟨rfl, hb1⟩)
    go_ret
    exact ⟨rfl, hb1⟩

end Go.Proofs.Ytnljlbhknbjinaa
