/-
  The law CsvFields, walked: it answers true. Condition: the texts are no longer than an int.
-/
import Derived.Test.YtnljlbhknbjinaaCsvLaws
namespace Go.Proofs.Ytnljlbhknbjinaa
open Go.RowKit
set_option linter.unusedVariables false
set_option linter.unusedSimpArgs false

theorem field_le (l : Cs.F) : (Cs.field l).length ≤ 2 * l.length + 2 := by
  unfold Cs.field
  split
  · omega
  · have := dbl_len l; simp; omega

theorem lit_rows2 (w : World) (a b : ByteArray) : RowsV ((w.alloc (.cells #[.string a, .string b] 9)).alloc (.cells #[.slice (some ⟨w.heap.size, 0, none⟩) 2 2] 38)) (.slice (some ⟨w.heap.size + 1, 0, none⟩) 1 1) [[a.data.toList, b.data.toList]] := by
  have h1 : ((w.alloc (.cells #[.string a, .string b] 9)).alloc (.cells #[.slice (some ⟨w.heap.size, 0, none⟩) 2 2] 38)).heap[w.heap.size + 1]? = some (.cells #[.slice (some ⟨w.heap.size, 0, none⟩) 2 2] 38 (0, 0)) := by
    have := heap_alloc_new (w.alloc (.cells #[.string a, .string b] 9)) (.cells #[.slice (some ⟨w.heap.size, 0, none⟩) 2 2] 38)
    rwa [World.size_alloc] at this
  have h2 : ((w.alloc (.cells #[.string a, .string b] 9)).alloc (.cells #[.slice (some ⟨w.heap.size, 0, none⟩) 2 2] 38)).heap[w.heap.size]? = some (.cells #[.string a, .string b] 9 (0, 0)) :=
    (Below.heap_alloc _ _ _ (by simp)).trans (heap_alloc_new w _)
  refine RowsV.mk1 (n := 1) rfl (fun j hj => ?_)
  obtain rfl : j = 0 := by simp at hj; omega
  refine ⟨.slice (some ⟨w.heap.size, 0, none⟩) 2 2, (cell_of_row _ _ 0 _ _ (0, 0) h1).trans rfl, StrsV.mk1 (n := 2) rfl (fun i hi => ?_)⟩
  have hi2 : i = 0 ∨ i = 1 := by simp at hi; omega
  rcases hi2 with rfl | rfl
  · exact (cell_of_row _ _ 0 _ _ (0, 0) h2).trans rfl
  · exact (cell_of_row _ _ 1 _ _ (0, 0) h2).trans rfl
theorem lit_rows1 (w : World) (a : ByteArray) : RowsV ((w.alloc (.cells #[.string a] 9)).alloc (.cells #[.slice (some ⟨w.heap.size, 0, none⟩) 1 1] 38)) (.slice (some ⟨w.heap.size + 1, 0, none⟩) 1 1) [[a.data.toList]] := by
  have h1 : ((w.alloc (.cells #[.string a] 9)).alloc (.cells #[.slice (some ⟨w.heap.size, 0, none⟩) 1 1] 38)).heap[w.heap.size + 1]? = some (.cells #[.slice (some ⟨w.heap.size, 0, none⟩) 1 1] 38 (0, 0)) := by
    have := heap_alloc_new (w.alloc (.cells #[.string a] 9)) (.cells #[.slice (some ⟨w.heap.size, 0, none⟩) 1 1] 38)
    rwa [World.size_alloc] at this
  have h2 : ((w.alloc (.cells #[.string a] 9)).alloc (.cells #[.slice (some ⟨w.heap.size, 0, none⟩) 1 1] 38)).heap[w.heap.size]? = some (.cells #[.string a] 9 (0, 0)) :=
    (Below.heap_alloc _ _ _ (by simp)).trans (heap_alloc_new w _)
  refine RowsV.mk1 (n := 1) rfl (fun j hj => ?_)
  obtain rfl : j = 0 := by simp at hj; omega
  refine ⟨.slice (some ⟨w.heap.size, 0, none⟩) 1 1, (cell_of_row _ _ 0 _ _ (0, 0) h1).trans rfl, StrsV.mk1 (n := 1) rfl (fun i hi => ?_)⟩
  obtain rfl : i = 0 := by simp at hi; omega
  exact (cell_of_row _ _ 0 _ _ (0, 0) h2).trans rfl
theorem chain {a b c : World} (h : Below a.heap.size a b) (k : Below b.heap.size b c) : Below a.heap.size a c := h.trans (k.mono h.size)
theorem two_below (w : World) (a b : Obj) : Below w.heap.size w ((w.alloc a).alloc b) := ((Below.refl _ w).alloc (Nat.le_refl _) _).alloc (by simp) _

set_option maxHeartbeats 4000000 in
set_option maxRecDepth 100000 in
theorem fields_walk (s t : ByteArray) (w : World) (hs : s.size ≤ maxLen) (ht : t.size ≤ maxLen) :
    Calls Try.prog 7 #[.string s, .string t] w fun e w' => e = .returned (.bool true) ∧ Below w.heap.size w w' := by
  by_cases h1 : s.size ≤ 300
  · have t0 : (decide ((s.size : Int) > 300)) = false := decide_eq_false (by omega)
    by_cases h2 : t.size ≤ 300
    · have t1 : (decide ((t.size : Int) > 300)) = false := decide_eq_false (by omega)
      have hf1 := fun W => field_text s W (by omega)
      have hf2 := fun W => field_text t W (by omega)
      have l1 := field_le s.data.toList
      have l2 := field_le t.data.toList
      rw [len_data] at l1 l2
      have hp1 := Cs.parse_two s.data.toList t.data.toList
      have hp2 := Cs.parse_one s.data.toList
      have hss : s = bs s.data.toList := rfl
      have htt : t = bs t.data.toList := rfl
      have hlit1 : Hid (∀ (W : World) v, RowsV W v [[s.data.toList, t.data.toList]] → ∀ u, RowsV W u [[s.data.toList, t.data.toList]] → Calls Try.prog 12 #[v, u] W fun e w' => e = .returned (.bool true) ∧ Below W.heap.size W w') := fun W v h1 u h2 => by
        refine (same_any v u _ _ W h1 h2 (by simp) (by simp) (by simp) (by simp)).mono ?_
        rintro e w' ⟨rfl, hb⟩
        exact ⟨ret_b (by simp), hb⟩
      have hlit2 : Hid (∀ (W : World) v, RowsV W v [[s.data.toList]] → ∀ u, RowsV W u [[s.data.toList]] → Calls Try.prog 12 #[v, u] W fun e w' => e = .returned (.bool true) ∧ Below W.heap.size W w') := fun W v h1 u h2 => by
        refine (same_any v u _ _ W h1 h2 (by simp) (by simp) (by simp) (by simp)).mono ?_
        rintro e w' ⟨rfl, hb⟩
        exact ⟨ret_b (by simp), hb⟩
      generalize Cs.field s.data.toList = fs at *
      generalize Cs.field t.data.toList = ft at *
      have hea : bs fs ++ (⟨#[44]⟩ : ByteArray) ++ bs ft = bs (fs ++ 44 :: ft) := by
        have : (⟨#[44]⟩ : ByteArray) = bs [44] := rfl
        rw [this, bs_append, bs_append]; simp
      have hq1 : ∀ W, Calls Try.prog 10 #[.string (bs fs ++ (⟨#[44]⟩ : ByteArray) ++ bs ft)] W fun e w' => ∃ v, e = .returned (.tuple #[v, .int .i64 ((fs.length : Int) + (ft.length : Int) + 1), .int .i64 0]) ∧ RowsV w' v [[s.data.toList, t.data.toList]] ∧ Below W.heap.size W w' := fun W => by
        rw [hea]
        refine (parse_any _ W (by rw [bs_size]; simp; omega)).mono ?_
        rintro e w' ⟨v, rfl, hv, hb⟩
        rw [bs_data, hp1] at *
        exact ⟨v, by simp, hv, hb⟩
      have hq2 : ∀ W, Calls Try.prog 10 #[str fs] W fun e w' => ∃ v, e = .returned (.tuple #[v, .int .i64 (fs.length : Int), .int .i64 0]) ∧ RowsV w' v [[s.data.toList]] ∧ Below W.heap.size W w' := fun W => by
        refine (parse_any _ W (by rw [bs_size]; omega)).mono ?_
        rintro e w' ⟨v, rfl, hv, hb⟩
        rw [bs_data, hp2] at *
        exact ⟨v, by simp, hv, hb⟩
      have z1 : (bs fs).size = fs.length := bs_size fs
      have z2 : (bs ft).size = ft.length := bs_size ft
      have z3 : (bs fs ++ (⟨#[44]⟩ : ByteArray)).size = fs.length + 1 := by rw [ByteArray.size_append, z1]; rfl
      have HF1 := Lib.hid hf1
      have HF2 := Lib.hid hf2
      have HQ1 := Lib.hid hq1
      have HQ2 := Lib.hid hq2
      clear hf1 hf2 hq1 hq2 hea hp1 hp2 hss htt
      go_enter Try.func7, Try.ntmps7
      go_wp2_with (first
        | (go_at_call 9; refine (alive_any _).mono ?_; rintro e w1 ⟨rfl, hb1⟩))
      refine (HF1.out _).mono ?_
      rintro e w2 ⟨rfl, hb2⟩
      go_wp2_with fail
      refine (HF2.out _).mono ?_
      rintro e w3 ⟨rfl, hb3⟩
      go_wp2_with fail
      refine (HQ1.out _).mono ?_
      rintro e w4 ⟨v1, rfl, hv1, hb4⟩
      go_wp2_with fail
      refine (HF1.out _).mono ?_
      rintro e w5 ⟨rfl, hb5⟩
      go_wp2_with fail
      refine (HQ2.out _).mono ?_
      rintro e w6 ⟨v2, rfl, hv2, hb6⟩
      go_wp2_with fail
      refine (HF1.out _).mono ?_
      rintro e w7 ⟨rfl, hb7⟩
      go_wp2_with fail
      refine (HF2.out _).mono ?_
      rintro e w8 ⟨rfl, hb8⟩
      go_wp2_with fail
      refine (HF1.out _).mono ?_
      rintro e w9 ⟨rfl, hb9⟩
      go_wp2_with fail
      have hv1' := ((((hv1.below hb5).below hb6).below hb7).below hb8).below hb9
      have hv2' := ((hv2.below hb7).below hb8).below hb9
      clear hv1 hv2
      refine (hlit1.out _ _ (hv1'.below (two_below _ _ _)) _ (lit_rows2 _ _ _)).mono ?_
      rintro e w10 ⟨rfl, hb10⟩
      have hv2'' := (hv2'.below (two_below _ _ _)).below hb10
      clear hv1' hv2'
      go_wp2_with fail
      refine (hlit2.out _ _ (hv2''.below (two_below _ _ _)) _ (lit_rows1 _ _)).mono ?_
      rintro e w11 ⟨rfl, hb11⟩
      go_wp2_with fail
      go_ret
      have q := chain hb1 (chain hb2 (chain hb3 (chain hb4 (chain hb5 (chain hb6 (chain hb7 (chain hb8 (chain hb9 (chain (two_below _ _ _) (chain hb10 (chain (two_below _ _ _) hb11)))))))))))
      exact ⟨rfl, q⟩
    · have t1 : (decide ((t.size : Int) > 300)) = true := decide_eq_true (by omega)
      go_enter Try.func7, Try.ntmps7
      go_wp2_with (go_at_call 9; refine (alive_any _).mono ?_; rintro e w1 ⟨rfl, hb1⟩)
      go_ret
      exact ⟨rfl, hb1⟩
  · have t0 : (decide ((s.size : Int) > 300)) = true := decide_eq_true (by omega)
    go_enter Try.func7, Try.ntmps7
    go_wp2_with (go_at_call 9; refine (alive_any _).mono ?_; rintro e w1 ⟨rfl, hb1⟩)
    go_ret
    exact ⟨rfl, hb1⟩

end Go.Proofs.Ytnljlbhknbjinaa
