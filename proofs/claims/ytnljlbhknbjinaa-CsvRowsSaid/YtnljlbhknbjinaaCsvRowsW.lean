/-
  The law CsvRows, walked: it answers true. Condition: what came in is no longer than the form lets it be.
-/
import Derived.Test.YtnljlbhknbjinaaCsvBackW
namespace Go.Proofs.Ytnljlbhknbjinaa
open Go.RowKit
set_option linter.unusedVariables false
set_option linter.unusedSimpArgs false

def OrR (rs : List (List Cs.F)) (w0 : World) (t i : Value) (w : World) : Prop :=
  ∃ k : Nat, k ≤ rs.length ∧ i = .int .i64 (k : Int) ∧ t = str (Cs.rowsT (rs.take k)) ∧ Below w0.heap.size w0 w ∧ Hid (Cs.bad (rs.take k) = false)

set_option maxHeartbeats 4000000 in
set_option maxRecDepth 100000 in
theorem rows_walk (v : Value) (rs : List (List Cs.F)) (w : World) (hv : RowsV w v rs) (hn : rs.length ≤ 140737488355328) (hr : ∀ r ∈ rs, r.length ≤ 140737488355328 ∧ ∀ f ∈ r, f.length ≤ 140737488355328)
    (hcap : ∃ p cap, v = .slice p rs.length cap ∧ rs.length ≤ cap ∧ cap ≤ maxLen) :
    Calls Try.prog 8 #[v] w fun e w' => e = .returned (.bool true) ∧ Below w.heap.size w w' := by
  have hg := fun W h => great_any v rs W h hn hr
  by_cases h1 : 2000 < Cs.wt rs
  · rw [decide_eq_true h1] at hg
    have HG := Lib.hid hg
    clear hg
    go_enter Try.func8, Try.ntmps8
    go_wp2_with fail
    refine (alive_any _).mono ?_
    rintro e w1 ⟨rfl, hb1⟩
    go_wp2_with fail
    refine (HG.out _ (hv.below hb1)).mono ?_
    rintro e w2 ⟨rfl, hb2⟩
    go_wp2_with fail
    go_ret
    exact ⟨rfl, chain hb1 hb2⟩
  · rw [decide_eq_false h1] at hg
    have HG := Lib.hid hg
    clear hg
    have hm := Cs.rowsT_max rs
    have hl := Cs.wt_len rs
    have hwm := fun r (h : r ∈ rs) => Cs.wt_mem h
    have hp1 := fun W h => print_rows v rs W h (by omega) (by omega)
    have hpr : ∃ pt pe, Cs.print rs = (pt, pe) := ⟨_, _, rfl⟩
    obtain ⟨pt, pe, hpr⟩ := hpr
    rw [hpr] at hp1
    have hpp : (Cs.bad rs = true ∧ pt = [] ∧ pe = 1) ∨ (Cs.bad rs = false ∧ pt = Cs.rowsT rs ∧ pe = 0) := by
      unfold Cs.print at hpr
      cases hb : Cs.bad rs with
      | true => rw [hb] at hpr; simp at hpr; exact .inl ⟨rfl, hpr.1, hpr.2.symm⟩
      | false => rw [hb] at hpr; simp at hpr; exact .inr ⟨rfl, hpr.1.symm, hpr.2.symm⟩
    have HPP := Lib.hid hpp
    have HP1 := Lib.hid hp1
    clear hp1 hpp hpr
    dsimp only at HP1
    obtain ⟨p, cap, rfl, hrd⟩ := hv.form
    obtain ⟨p', cap', he, hcap1, hcap2⟩ := hcap
    simp only [Value.slice.injEq, true_and] at he
    obtain ⟨rfl, rfl⟩ := he
    go_enter Try.func8, Try.ntmps8
    go_wp2_with fail
    refine (alive_any _).mono ?_
    rintro e w1 ⟨rfl, hb1⟩
    go_wp2_with fail
    refine (HG.out _ (hv.below hb1)).mono ?_
    rintro e w2 ⟨rfl, hb2⟩
    go_wp2_with fail
    refine (HP1.out _ ((hv.below hb1).below hb2)).mono ?_
    rintro e w3 ⟨rfl, hb3⟩
    have q3 := chain hb1 (chain hb2 hb3)
    clear hb1 hb2 hb3
    go_wp2_with fail
    go_loopw [5, 6] (OrR rs w) (fun _ i _ => rs.length - (intOf i).toNat)
    case atStart => exact ⟨0, Nat.zero_le _, by go_num, by rw [List.take_zero]; rfl, q3, by unfold Hid; rw [List.take_zero]; rfl⟩
    case round =>
      obtain ⟨k, hk, rfl, rfl, hbl, HB⟩ := hrel
      have z1 : (bs (Cs.rowsT (rs.take k))).size = (Cs.rowsT (rs.take k)).length := bs_size _
      by_cases hlt : k < rs.length
      · obtain ⟨b, o, x, rfl, hcx, hsx⟩ := hrd k hlt
        have htk := rowsT_take hlt
        have hln := rowsT_mono rs (k + 1)
        rw [htk] at hln
        have hbk := bad_take hlt
        have hmem : rs[k] ∈ rs := List.getElem_mem hlt
        have hw1 := hwm _ hmem
        generalize rs[k] = r at *
        have i1 : (0 : Int) ≤ (k : Int) := by omega
        have i2 : (k : Int) < (rs.length : Int) := by omega
        have i3 : (k : Int) + 1 ≤ (cap : Int) := by omega
        have hone : ∀ W, Below w.heap.size w W → RowsV W (.slice (some ⟨b, o + k, none⟩) 1 (cap - k)) [r] := fun W hW => by
          refine RowsV.mk1 (n := 1) rfl (fun j hj => ?_)
          obtain rfl : j = 0 := by simp at hj; omega
          exact ⟨x, cell_below hW hcx, hsx.below hW⟩
        have hwt1 : Cs.wt [r] ≤ 1003004002 := by simp only [Cs.wt]; omega
        have HTK := Lib.hid htk
        have HBK := Lib.hid hbk
        have HONE := Lib.hid hone
        clear htk hbk hsx hrd hone
        simp only [List.length_append, List.length_cons, List.length_nil] at hln
        by_cases hr0 : r = []
        · have hbr : Cs.bad rs = true := by
            unfold Cs.bad
            rw [List.any_eq_true]
            exact ⟨r, hmem, by rw [hr0]; rfl⟩
          obtain ⟨rfl, rfl⟩ : pt = [] ∧ pe = 1 := by
            rcases HPP.out with h | h
            · exact h.2
            · rw [hbr] at h; exact absurd h.1 (by simp)
          have te : (bs []).toList.isEmpty = true := isEmpty_nil _ rfl
          have HPR := Lib.hid (print_bad [r] hwt1 (by rw [hr0]; rfl))
          clear hr0 hbr
          go_wp2_with fail
          refine (HPR.out _ _ (HONE.out _ hbl)).mono ?_
          rintro e w4 ⟨rfl, hb4⟩
          go_wp2_with fail
          go_ret
          exact ⟨rfl, chain hbl hb4⟩
        · have hre : r.isEmpty = false := by cases r with | nil => exact absurd rfl hr0 | cons _ _ => rfl
          have HRE := Lib.hid hre
          have HPR := Lib.hid (print_ok [r] hwt1 (by simp only [Cs.bad, List.any_cons, List.any_nil, hre]; rfl))
          have hrow : Cs.rowsT [r] = Cs.fields r ++ [13, 10] := by simp [Cs.rowsT, Cs.rowT]
          rw [hrow] at HPR
          have z2 : (bs (Cs.fields r ++ [13, 10])).size = (Cs.fields r).length + 2 := by rw [bs_size]; simp
          have hv2 : str (Cs.rowsT (rs.take (k + 1))) = .string (bs (Cs.rowsT (rs.take k)) ++ bs (Cs.fields r ++ [13, 10])) := by rw [HTK.out, bs_append]
          have HV := Lib.hid hv2
          clear hr0 hre hv2 hrow
          go_wp2_with fail
          refine (HPR.out _ _ (HONE.out _ hbl)).mono ?_
          rintro e w4 ⟨rfl, hb4⟩
          go_wp2_with fail
          go_roundw
          case rel =>
            refine ⟨k + 1, by omega, by go_num, HV.out.symm, chain hbl hb4, ?_⟩
            unfold Hid; rw [HBK.out, HB.out, HRE.out]; rfl
          case measure => simp [intOf]; omega
      · obtain rfl : k = rs.length := by omega
        have hbr := HB.out
        rw [List.take_length] at hbr
        obtain ⟨rfl, rfl⟩ : pt = Cs.rowsT rs ∧ pe = 0 := by
          rcases HPP.out with h | h
          · rw [hbr] at h; exact absurd h.1 (by simp)
          · exact h.2
        rw [List.take_length]
        clear hbr
        go_wp2_with fail
        go_ret
        exact ⟨rfl, hbl⟩

end Go.Proofs.Ytnljlbhknbjinaa
