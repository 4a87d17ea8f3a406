/-
  The law's alive(): the document's examples hold. No condition.
-/
import Derived.Test.YtnljlbhknbjinaaCsvParse
import Derived.Test.YtnljlbhknbjinaaCsvWrite
namespace Go.Proofs.Ytnljlbhknbjinaa
open Go.RowKit
set_option linter.unusedVariables false
set_option linter.unusedSimpArgs false

theorem StrsV.mk1 {w : World} {b o cap n : Nat} {xs : List (List UInt8)} (hn : xs.length = n) (h : ∀ (j : Nat) (hj : j < xs.length), w.cell? ⟨b, o + j, none⟩ = some (str xs[j])) : StrsV w (.slice (some ⟨b, o, none⟩) n cap) xs := by
  subst hn; exact StrsV.mk h
theorem RowsV.mk1 {w : World} {b o cap n : Nat} {rs : List (List (List UInt8))} (hn : rs.length = n) (h : ∀ (j : Nat) (hj : j < rs.length), ∃ x, w.cell? ⟨b, o + j, none⟩ = some x ∧ StrsV w x rs[j]) : RowsV w (.slice (some ⟨b, o, none⟩) n cap) rs := by
  subst hn; exact RowsV.mk h

theorem alive_p1 (w : World) : Calls Try.prog 10 #[.string ⟨#[97, 44, 34, 34, 34, 98, 34, 34, 34, 13, 10]⟩] w fun e w' => ∃ b o c b2 o2 c2, e = .returned (.tuple #[.slice (some ⟨b, o, none⟩) 1 c, .int .i64 11, .int .i64 0]) ∧
    w'.cell? ⟨b, o, none⟩ = some (.slice (some ⟨b2, o2, none⟩) 2 c2) ∧ w'.cell? ⟨b2, o2 + 1, none⟩ = some (.string ⟨#[34, 98, 34]⟩) ∧ Below w.heap.size w w' := by
  have hp : Cs.parse [97, 44, 34, 34, 34, 98, 34, 34, 34, 13, 10] = ([[[97], [34, 98, 34]]], 11, 0) := by decide
  refine (parse_any _ w (by decide)).mono ?_
  rintro e w' ⟨v, rfl, hv, hb⟩
  change RowsV w' v (Cs.parse [97, 44, 34, 34, 34, 98, 34, 34, 34, 13, 10]).1 at hv
  rw [hp] at hv
  obtain ⟨p, c, rfl, h1⟩ := hv.form
  obtain ⟨b, o, x, rfl, h2, h3⟩ := h1 0 (by simp)
  obtain ⟨q, c2, rfl, h4⟩ := h3.form
  obtain ⟨b2, o2, rfl, h5⟩ := h4 1 (by simp)
  refine ⟨b, o, c, b2, o2, c2, ?_, h2, h5, hb⟩
  show Ending.returned (.tuple #[_, .int .i64 ((Cs.parse [97, 44, 34, 34, 34, 98, 34, 34, 34, 13, 10]).2.1 : Int), .int .i64 ((Cs.parse [97, 44, 34, 34, 34, 98, 34, 34, 34, 13, 10]).2.2 : Int)]) = _
  rw [hp]; rfl
theorem alive_p2 (w : World) : Calls Try.prog 10 #[.string ⟨#[97, 34, 98]⟩] w fun e w' => ∃ v, e = .returned (.tuple #[v, .int .i64 1, .int .i64 2]) ∧ Below w.heap.size w w' := by
  have hp : Cs.parse [97, 34, 98] = ([], 1, 2) := by decide
  refine (parse_any _ w (by decide)).mono ?_
  rintro e w' ⟨v, rfl, hv, hb⟩
  refine ⟨v, ?_, hb⟩
  show Ending.returned (.tuple #[_, .int .i64 ((Cs.parse [97, 34, 98]).2.1 : Int), .int .i64 ((Cs.parse [97, 34, 98]).2.2 : Int)]) = _
  rw [hp]; rfl
theorem alive_f (w : World) : Calls Try.prog 16 #[.string ⟨#[97]⟩] w fun e w' => e = .returned (.string ⟨#[97]⟩) ∧ Below w.heap.size w w' := by
  refine (field_text ⟨#[97]⟩ w (by decide)).mono ?_
  rintro e w' ⟨rfl, hb⟩
  exact ⟨rfl, hb⟩
theorem alive_pr (w : World) : Calls Try.prog 14 #[.slice (some ⟨w.heap.size + 1, 0, none⟩) 1 1] ((w.alloc (.cells #[.string ⟨#[]⟩, .string ⟨#[120]⟩] 9)).alloc (.cells #[.slice (some ⟨w.heap.size, 0, none⟩) 2 2] 38)) fun e w' => e = .returned (.tuple #[.string ⟨#[34, 34, 44, 120, 13, 10]⟩, .int .i64 0]) ∧ Below w.heap.size w w' := by
  have hv : RowsV ((w.alloc (.cells #[.string ⟨#[]⟩, .string ⟨#[120]⟩] 9)).alloc (.cells #[.slice (some ⟨w.heap.size, 0, none⟩) 2 2] 38)) (.slice (some ⟨w.heap.size + 1, 0, none⟩) 1 1) [[[], [120]]] := by
    have h1 : ((w.alloc (.cells #[.string ⟨#[]⟩, .string ⟨#[120]⟩] 9)).alloc (.cells #[.slice (some ⟨w.heap.size, 0, none⟩) 2 2] 38)).heap[w.heap.size + 1]? = some (.cells #[.slice (some ⟨w.heap.size, 0, none⟩) 2 2] 38 (0, 0)) := by
      have := heap_alloc_new (w.alloc (.cells #[.string ⟨#[]⟩, .string ⟨#[120]⟩] 9)) (.cells #[.slice (some ⟨w.heap.size, 0, none⟩) 2 2] 38)
      rwa [World.size_alloc] at this
    have h2 : ((w.alloc (.cells #[.string ⟨#[]⟩, .string ⟨#[120]⟩] 9)).alloc (.cells #[.slice (some ⟨w.heap.size, 0, none⟩) 2 2] 38)).heap[w.heap.size]? = some (.cells #[.string ⟨#[]⟩, .string ⟨#[120]⟩] 9 (0, 0)) :=
      (Below.heap_alloc _ _ _ (by simp)).trans (heap_alloc_new w _)
    refine RowsV.mk1 (n := 1) rfl (fun j hj => ?_)
    obtain rfl : j = 0 := by simp at hj; omega
    refine ⟨.slice (some ⟨w.heap.size, 0, none⟩) 2 2, (cell_of_row _ _ 0 _ _ (0, 0) h1).trans rfl, StrsV.mk1 (n := 2) rfl (fun i hi => ?_)⟩
    have hi2 : i = 0 ∨ i = 1 := by simp at hi; omega
    rcases hi2 with rfl | rfl
    · exact (cell_of_row _ _ 0 _ _ (0, 0) h2).trans rfl
    · exact (cell_of_row _ _ 1 _ _ (0, 0) h2).trans rfl
  refine (print_rows _ _ _ hv (by decide) (by decide)).mono ?_
  rintro e w' ⟨rfl, hb⟩
  exact ⟨rfl, (((Below.refl _ w).alloc (Nat.le_refl _) _).alloc (by simp) _).trans (hb.mono (by simp; omega))⟩

set_option maxHeartbeats 4000000 in
set_option maxRecDepth 100000 in
theorem alive_any (w : World) : Calls Try.prog 9 #[] w fun e w' => e = .returned (.bool true) ∧ Below w.heap.size w w' := by
  go_enter Try.func9, Try.ntmps9
  go_wp2_with fail
  refine (alive_p1 _).mono ?_
  rintro e w1 ⟨b, o, c, b2, o2, c2, rfl, e1, e2, hb1⟩
  go_wp2_with fail
  refine (alive_p2 _).mono ?_
  rintro e w2 ⟨v2, rfl, hb2⟩
  have e3 := cell_below hb2 e1
  have e4 := cell_below hb2 e2
  clear e1 e2
  go_wp2_with fail
  refine (alive_pr _).mono ?_
  rintro e w3 ⟨rfl, hb3⟩
  have e5 := cell_below hb3 e3
  have e6 := cell_below hb3 e4
  clear e3 e4
  go_wp2_with fail
  refine (alive_f _).mono ?_
  rintro e w4 ⟨rfl, hb4⟩
  go_wp2_with fail
  go_ret
  exact ⟨rfl, ((hb1.trans (hb2.mono hb1.size)).trans (hb3.mono (Nat.le_trans hb1.size hb2.size))).trans (hb4.mono (Nat.le_trans (Nat.le_trans hb1.size hb2.size) hb3.size))⟩

end Go.Proofs.Ytnljlbhknbjinaa
