/-
  The law CsvPrints, walked: it answers true. Condition: what came in is no longer than the form lets it be.
-/
import Derived.Test.YtnljlbhknbjinaaCsvRPrint
import Derived.Test.YtnljlbhknbjinaaCsvFieldsW
namespace Go.Proofs.Ytnljlbhknbjinaa
open Go.RowKit
set_option linter.unusedVariables false
set_option linter.unusedSimpArgs false

set_option maxHeartbeats 4000000 in
set_option maxRecDepth 100000 in
theorem prints_walk (v : Value) (rs : List (List Cs.F)) (s : ByteArray) (w : World) (hv : RowsV w v rs) (hn : rs.length ≤ 140737488355328) (hr : ∀ r ∈ rs, r.length ≤ 140737488355328 ∧ ∀ f ∈ r, f.length ≤ 140737488355328) (hs : s.size ≤ maxLen) :
    Calls Try.prog 4 #[v, .string s] w fun e w' => e = .returned (.bool true) ∧ Below w.heap.size w w' := by
  have hg := fun W h => great_any v rs W h hn hr
  by_cases h1 : 2000 < Cs.wt rs
  · rw [decide_eq_true h1] at hg
    have HG := Lib.hid hg
    clear hg
    go_enter Try.func4, Try.ntmps4
    go_wp2_with fail
    refine (alive_any _).mono ?_
    rintro e w1 ⟨rfl, hb1⟩
    go_wp2_with fail
    refine (HG.out _ (hv.below hb1)).mono ?_
    rintro e w2 ⟨rfl, hb2⟩
    go_wp2_with fail
    go_ret
    exact ⟨rfl, chain hb1 hb2⟩
  · rw [decide_eq_false h1] at hg
    have HG := Lib.hid hg
    clear hg
    by_cases h2 : s.size ≤ 1000
    · have t0 : (decide ((s.size : Int) > 1000)) = false := decide_eq_false (by omega)
      have hm := Cs.rowsT_max rs
      have hl := Cs.wt_len rs
      have hp1 := fun W h => print_rows v rs W h (by omega) (by omega)
      have hp2 := fun W h => rprint_any v rs W h (by omega) (by omega)
      have hf1 := fun W => field_text s W (by omega)
      have hf2 := fun W => rfield_any s W (by omega)
      generalize Cs.field s.data.toList = fs at *
      generalize Cs.print rs = pr at *
      obtain ⟨pt, pe⟩ := pr
      have HP1 := Lib.hid hp1
      have HP2 := Lib.hid hp2
      have HF1 := Lib.hid hf1
      have HF2 := Lib.hid hf2
      clear hp1 hp2 hf1 hf2 hm hl h1
      dsimp only at HP1 HP2
      go_enter Try.func4, Try.ntmps4
      go_wp2_with fail
      refine (alive_any _).mono ?_
      rintro e w1 ⟨rfl, hb1⟩
      go_wp2_with fail
      refine (HG.out _ (hv.below hb1)).mono ?_
      rintro e w2 ⟨rfl, hb2⟩
      go_wp2_with fail
      refine (HP1.out _ ((hv.below hb1).below hb2)).mono ?_
      rintro e w3 ⟨rfl, hb3⟩
      go_wp2_with fail
      refine (HP2.out _ (((hv.below hb1).below hb2).below hb3)).mono ?_
      rintro e w4 ⟨rfl, hb4⟩
      go_wp2_with fail
      refine (HF1.out _).mono ?_
      rintro e w5 ⟨rfl, hb5⟩
      go_wp2_with fail
      refine (HF2.out _).mono ?_
      rintro e w6 ⟨rfl, hb6⟩
      go_wp2_with fail
      go_ret
      exact ⟨rfl, chain hb1 (chain hb2 (chain hb3 (chain hb4 (chain hb5 hb6))))⟩
    · have t0 : (decide ((s.size : Int) > 1000)) = true := decide_eq_true (by omega)
      go_enter Try.func4, Try.ntmps4
      go_wp2_with fail
      refine (alive_any _).mono ?_
      rintro e w1 ⟨rfl, hb1⟩
      go_wp2_with fail
      refine (HG.out _ (hv.below hb1)).mono ?_
      rintro e w2 ⟨rfl, hb2⟩
      go_wp2_with fail
      go_ret
      exact ⟨rfl, chain hb1 hb2⟩

end Go.Proofs.Ytnljlbhknbjinaa
