/-
  The law CsvBack, walked: it answers true. Condition: what came in is no longer than the form lets it be.
-/
import Derived.Test.YtnljlbhknbjinaaCsvPrintsW
namespace Go.Proofs.Ytnljlbhknbjinaa
open Go.RowKit
set_option linter.unusedVariables false
set_option linter.unusedSimpArgs false

theorem same_self (rs : List (List Cs.F)) (h : Cs.wt rs ≤ 1003004002) (W : World) (u v : Value) (hu : RowsV W u rs) (hv : RowsV W v rs) : Calls Try.prog 12 #[u, v] W fun e w' => e = .returned (.bool true) ∧ Below W.heap.size W w' := by
  have h1 := Cs.wt_len rs
  have h2 : ∀ r ∈ rs, r.length ≤ 4294967296 := fun r hr => by have := Cs.wt_mem hr; have := Cs.wr_len r; omega
  refine (same_any u v rs rs W hu hv (by omega) (by omega) h2 h2).mono ?_
  rintro e w' ⟨rfl, hb⟩
  exact ⟨ret_b (by simp), hb⟩
theorem print_ok (rs : List (List Cs.F)) (h : Cs.wt rs ≤ 1003004002) (hb : Cs.bad rs = false) (W : World) (v : Value) (hv : RowsV W v rs) : Calls Try.prog 14 #[v] W fun e w' => e = .returned (.tuple #[str (Cs.rowsT rs), .int .i64 0]) ∧ Below W.heap.size W w' := by
  have h1 := Cs.wt_len rs
  have h2 := Cs.rowsT_max rs
  refine (print_rows v rs W hv (by omega) (by omega)).mono ?_
  rintro e w' ⟨rfl, hb'⟩
  have hp : Cs.print rs = (Cs.rowsT rs, 0) := by unfold Cs.print; rw [hb]; simp
  rw [hp]
  exact ⟨rfl, hb'⟩
theorem print_bad (rs : List (List Cs.F)) (h : Cs.wt rs ≤ 1003004002) (hb : Cs.bad rs = true) (W : World) (v : Value) (hv : RowsV W v rs) : Calls Try.prog 14 #[v] W fun e w' => e = .returned (.tuple #[.string ⟨#[]⟩, .int .i64 1]) ∧ Below W.heap.size W w' := by
  have h1 := Cs.wt_len rs
  have h2 := Cs.rowsT_max rs
  refine (print_rows v rs W hv (by omega) (by omega)).mono ?_
  rintro e w' ⟨rfl, hb'⟩
  have hp : Cs.print rs = ([], 1) := by unfold Cs.print; rw [hb]; simp
  rw [hp]
  exact ⟨rfl, hb'⟩
theorem parse_back (rs : List (List Cs.F)) (h : Cs.wt rs ≤ 1003004002) (hb : Cs.bad rs = false) (W : World) : Calls Try.prog 10 #[str (Cs.rowsT rs)] W fun e w' => ∃ v, e = .returned (.tuple #[v, .int .i64 ((Cs.rowsT rs).length : Int), .int .i64 0]) ∧ RowsV w' v rs ∧ Below W.heap.size W w' := by
  have h2 := Cs.rowsT_max rs
  refine (parse_any (bs (Cs.rowsT rs)) W (by rw [bs_size]; omega)).mono ?_
  rintro e w' ⟨v, rfl, hv, hb'⟩
  rw [bs_data, Cs.parse_print rs hb] at *
  exact ⟨v, rfl, hv, hb'⟩
theorem parse_nil (W : World) : Calls Try.prog 10 #[.string ⟨#[]⟩] W fun e w' => ∃ v, e = .returned (.tuple #[v, .int .i64 0, .int .i64 0]) ∧ RowsV w' v [] ∧ Below W.heap.size W w' := by
  refine (parse_any ⟨#[]⟩ W (by decide)).mono ?_
  rintro e w' ⟨v, rfl, hv, hb'⟩
  exact ⟨v, rfl, hv, hb'⟩
/-- a text read: wrong, with no rows; or right -/
theorem parse_two_ways (s : ByteArray) (hs : s.size ≤ 1000) :
    (∃ at1 : Nat, at1 ≤ 1000 ∧ Cs.parse s.data.toList = ([], at1, 2) ∧ ∀ W, Calls Try.prog 10 #[.string s] W fun e w' => ∃ p cap, e = .returned (.tuple #[.slice p 0 cap, .int .i64 (at1 : Int), .int .i64 2]) ∧ Below W.heap.size W w') ∨
    (∃ xs at1, at1 ≤ 1000 ∧ Cs.parse s.data.toList = (xs, at1, 0) ∧ Cs.bad xs = false ∧ Cs.wt xs ≤ 1003004002 ∧ ∀ W, Calls Try.prog 10 #[.string s] W fun e w' => ∃ v, e = .returned (.tuple #[v, .int .i64 (at1 : Int), .int .i64 0]) ∧ RowsV w' v xs ∧ Below W.heap.size W w') := by
  have hw := Cs.parse_wt s.data.toList (by rw [len_data]; exact hs)
  obtain ⟨h1, h2, h3, _⟩ := Cs.parse_ok s.data.toList
  rw [len_data] at h3
  have hp := fun W => parse_any s W (by omega)
  generalize Cs.parse s.data.toList = p at *
  obtain ⟨xs, at1, er⟩ := p
  dsimp only at *
  rcases h1 with rfl | ⟨rfl, rfl⟩
  · exact .inr ⟨xs, at1, by omega, rfl, h2, hw, hp⟩
  · refine .inl ⟨at1, by omega, rfl, fun W => (hp W).mono ?_⟩
    rintro e w' ⟨v, rfl, hv, hb⟩
    obtain ⟨p, cap, rfl, _⟩ := hv.form
    exact ⟨p, cap, rfl, hb⟩

set_option maxHeartbeats 8000000 in
set_option maxRecDepth 100000 in
theorem back_walk (v : Value) (rs : List (List Cs.F)) (s : ByteArray) (w : World) (hv : RowsV w v rs) (hn : rs.length ≤ 140737488355328) (hr : ∀ r ∈ rs, r.length ≤ 140737488355328 ∧ ∀ f ∈ r, f.length ≤ 140737488355328) (hs : s.size ≤ maxLen) :
    Calls Try.prog 5 #[v, .string s] w fun e w' => e = .returned (.bool true) ∧ Below w.heap.size w w' := by
  have hg := fun W h => great_any v rs W h hn hr
  by_cases h1 : 2000 < Cs.wt rs
  · rw [decide_eq_true h1] at hg
    have HG := Lib.hid hg
    clear hg
    go_enter Try.func5, Try.ntmps5
    go_wp2_with fail
    refine (alive_any _).mono ?_
    rintro e w1 ⟨rfl, hb1⟩
    go_wp2_with fail
    refine (HG.out _ (hv.below hb1)).mono ?_
    rintro e w2 ⟨rfl, hb2⟩
    go_wp2_with fail
    go_ret
    exact ⟨rfl, chain hb1 hb2⟩
  rw [decide_eq_false h1] at hg
  have HG := Lib.hid hg
  clear hg
  by_cases h2 : s.size ≤ 1000
  · have t0 : (decide ((s.size : Int) > 1000)) = false := decide_eq_false (by omega)
    have hwt : Cs.wt rs ≤ 1003004002 := by omega
    rcases parse_two_ways s h2 with ⟨at1, hat, _, hps⟩ | ⟨xs, at1, hat, _, hbx, hwx, hps⟩
    · cases hbr : Cs.bad rs with
      | false =>
        have HPR := Lib.hid (print_ok rs hwt hbr)
        have HPB := Lib.hid (parse_back rs hwt hbr)
        have HSM := Lib.hid (same_self rs hwt)
        have z1 : (bs (Cs.rowsT rs)).size = (Cs.rowsT rs).length := bs_size _
        have z2 := Cs.rowsT_max rs
        have HPS := Lib.hid hps
        clear hps
        clear h1
        go_enter Try.func5, Try.ntmps5
        go_wp2_with fail
        refine (alive_any _).mono ?_
        rintro e w1 ⟨rfl, hb1⟩
        go_wp2_with fail
        refine (HG.out _ (hv.below hb1)).mono ?_
        rintro e w2 ⟨rfl, hb2⟩
        go_wp2_with fail
        refine (HPR.out _ _ ((hv.below hb1).below hb2)).mono ?_
        rintro e w3 ⟨rfl, hb3⟩
        go_wp2_with fail
        refine (HPB.out _).mono ?_
        rintro e w4 ⟨vm, rfl, hvm, hb4⟩
        go_wp2_with fail
        refine (HSM.out _ _ _ ((((hv.below hb1).below hb2).below hb3).below hb4) hvm).mono ?_
        rintro e w5 ⟨rfl, hb5⟩
        have q4 := chain hb1 (chain hb2 (chain hb3 (chain hb4 hb5)))
        clear hb1 hb2 hb3 hb4 hb5
        go_wp2_with fail
        refine (HPS.out _).mono ?_
        rintro e w6 ⟨px, cx, rfl, hb6⟩
        go_wp2_with fail
        go_ret
        exact ⟨rfl, chain q4 hb6⟩
      | true =>
        have HPR := Lib.hid (print_bad rs hwt hbr)
        have HPS := Lib.hid hps
        clear hps
        clear h1
        go_enter Try.func5, Try.ntmps5
        go_wp2_with fail
        refine (alive_any _).mono ?_
        rintro e w1 ⟨rfl, hb1⟩
        go_wp2_with fail
        refine (HG.out _ (hv.below hb1)).mono ?_
        rintro e w2 ⟨rfl, hb2⟩
        go_wp2_with fail
        refine (HPR.out _ _ ((hv.below hb1).below hb2)).mono ?_
        rintro e w3 ⟨rfl, hb3⟩
        go_wp2_with fail
        refine (parse_nil _).mono ?_
        rintro e w4 ⟨vm, rfl, hvm, hb4⟩
        have q4 := chain hb1 (chain hb2 (chain hb3 hb4))
        clear hb1 hb2 hb3 hb4
        go_wp2_with fail
        refine (HPS.out _).mono ?_
        rintro e w6 ⟨px, cx, rfl, hb6⟩
        go_wp2_with fail
        go_ret
        exact ⟨rfl, chain q4 hb6⟩
    · cases hbr : Cs.bad rs with
      | false =>
        have HPR := Lib.hid (print_ok rs hwt hbr)
        have HPB := Lib.hid (parse_back rs hwt hbr)
        have HSM := Lib.hid (same_self rs hwt)
        have z1 : (bs (Cs.rowsT rs)).size = (Cs.rowsT rs).length := bs_size _
        have z2 := Cs.rowsT_max rs
        have HPS := Lib.hid hps
        have HXP := Lib.hid (print_ok xs hwx hbx)
        have HXB := Lib.hid (parse_back xs hwx hbx)
        have HXS := Lib.hid (same_self xs hwx)
        have y2 := Cs.rowsT_max xs
        clear hps
        clear h1
        go_enter Try.func5, Try.ntmps5
        go_wp2_with fail
        refine (alive_any _).mono ?_
        rintro e w1 ⟨rfl, hb1⟩
        go_wp2_with fail
        refine (HG.out _ (hv.below hb1)).mono ?_
        rintro e w2 ⟨rfl, hb2⟩
        go_wp2_with fail
        refine (HPR.out _ _ ((hv.below hb1).below hb2)).mono ?_
        rintro e w3 ⟨rfl, hb3⟩
        go_wp2_with fail
        refine (HPB.out _).mono ?_
        rintro e w4 ⟨vm, rfl, hvm, hb4⟩
        go_wp2_with fail
        refine (HSM.out _ _ _ ((((hv.below hb1).below hb2).below hb3).below hb4) hvm).mono ?_
        rintro e w5 ⟨rfl, hb5⟩
        have q4 := chain hb1 (chain hb2 (chain hb3 (chain hb4 hb5)))
        clear hb1 hb2 hb3 hb4 hb5
        go_wp2_with fail
        refine (HPS.out _).mono ?_
        rintro e w6 ⟨vx, rfl, hvx, hb6⟩
        go_wp2_with fail
        refine (HXP.out _ _ hvx).mono ?_
        rintro e w7 ⟨rfl, hb7⟩
        go_wp2_with fail
        refine (HXB.out _).mono ?_
        rintro e w8 ⟨vy, rfl, hvy, hb8⟩
        go_wp2_with fail
        refine (HXS.out _ _ _ ((hvx.below hb7).below hb8) hvy).mono ?_
        rintro e w9 ⟨rfl, hb9⟩
        go_wp2_with fail
        go_ret
        exact ⟨rfl, chain q4 (chain hb6 (chain hb7 (chain hb8 hb9)))⟩
      | true =>
        have HPR := Lib.hid (print_bad rs hwt hbr)
        have HPS := Lib.hid hps
        have HXP := Lib.hid (print_ok xs hwx hbx)
        have HXB := Lib.hid (parse_back xs hwx hbx)
        have HXS := Lib.hid (same_self xs hwx)
        have y2 := Cs.rowsT_max xs
        clear hps
        clear h1
        go_enter Try.func5, Try.ntmps5
        go_wp2_with fail
        refine (alive_any _).mono ?_
        rintro e w1 ⟨rfl, hb1⟩
        go_wp2_with fail
        refine (HG.out _ (hv.below hb1)).mono ?_
        rintro e w2 ⟨rfl, hb2⟩
        go_wp2_with fail
        refine (HPR.out _ _ ((hv.below hb1).below hb2)).mono ?_
        rintro e w3 ⟨rfl, hb3⟩
        go_wp2_with fail
        refine (parse_nil _).mono ?_
        rintro e w4 ⟨vm, rfl, hvm, hb4⟩
        have q4 := chain hb1 (chain hb2 (chain hb3 hb4))
        clear hb1 hb2 hb3 hb4
        go_wp2_with fail
        refine (HPS.out _).mono ?_
        rintro e w6 ⟨vx, rfl, hvx, hb6⟩
        go_wp2_with fail
        refine (HXP.out _ _ hvx).mono ?_
        rintro e w7 ⟨rfl, hb7⟩
        go_wp2_with fail
        refine (HXB.out _).mono ?_
        rintro e w8 ⟨vy, rfl, hvy, hb8⟩
        go_wp2_with fail
        refine (HXS.out _ _ _ ((hvx.below hb7).below hb8) hvy).mono ?_
        rintro e w9 ⟨rfl, hb9⟩
        go_wp2_with fail
        go_ret
        exact ⟨rfl, chain q4 (chain hb6 (chain hb7 (chain hb8 hb9)))⟩
  · have t0 : (decide ((s.size : Int) > 1000)) = true := decide_eq_true (by omega)
    go_enter Try.func5, Try.ntmps5
    go_wp2_with fail
    refine (alive_any _).mono ?_
    rintro e w1 ⟨rfl, hb1⟩
    go_wp2_with fail
    refine (HG.out _ (hv.below hb1)).mono ?_
    rintro e w2 ⟨rfl, hb2⟩
    go_wp2_with fail
    go_ret
    exact ⟨rfl, chain hb1 hb2⟩

end Go.Proofs.Ytnljlbhknbjinaa
