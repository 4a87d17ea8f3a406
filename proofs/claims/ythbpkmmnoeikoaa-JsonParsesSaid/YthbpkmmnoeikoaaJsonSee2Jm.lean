/-
  The reference's reader's step. Condition: the reader lies as SeC says; a text shorter than 2^32 - 15 bytes.
-/
import Derived.Test.YthbpkmmnoeikoaaJsonSeeJm
namespace Go.Proofs.Ythbpkmmnoeikoaa
open Go Go.RowKit
set_option linter.unusedVariables false
set_option linter.unusedSimpArgs false

set_option maxRecDepth 100000 in
set_option maxHeartbeats 4000000 in
theorem sstep_ok (s : ByteArray) (rb : Nat) (t : Tk.Tok) (a : Int) (w : World) (hs : s.size ≤ 4294967280) (ht : t.end' ≤ s.size) (hr : SeC w rb s a 0 t) :
    Calls Try.prog 50 #[.pointer (some ⟨rb, 0, none⟩)] w fun e w' => e = .returned (.tuple #[]) ∧ w.grownBy w' (some rb) ∧ match Js.nx s.data.toList t with
      | .ok t' => SeC w' rb s a 0 t'
      | .error none => False
      | .error (some p) => SeC w' rb s (p.1 : Int) p.2 t := by
  obtain ⟨c0, c1, c2, c3, c4, c5, c6, c7, c8⟩ := se_cells hr
  have HN := Lib.hid (fun W => rnext_pos s t.end' W hs ht)
  unfold Js.nx
  generalize Tk.next s.data.toList t.end' = x at *
  unfold nextV tokV at HN
  obtain ⟨r, hr0⟩ : ∃ r, r = (if x.2.2 = 0 then (Except.ok x.1 : Js.Re Tk.Tok) else .error (some (x.2.1, x.2.2))) := ⟨_, rfl⟩
  rw [← hr0]
  have HR := Lib.hid hr0
  clear hr0
  go_enter Try.func50, Try.ntmps50
  have hrl : rb < w.heap.size := (Array.getElem?_eq_some_iff.1 hr).1
  go_upto_region 1 with fail
  go_cut [2, 3, 4] (fun s2 s3 s4 wx => ∃ b : Nat, s2 = .pointer (some ⟨b, 0, none⟩) ∧ s3 = .int .i64 (x.2.1 : Int) ∧ s4 = .int .i64 x.2.2 ∧ wx.heap[b]? = some (.cells (tokCells x.1) 52 (0, 0)) ∧ w.heap.size ≤ b ∧ Below w.heap.size w wx)
  case first =>
    have c03 : w.drew.cell? ⟨rb, 0, none⟩ = some (.string s) ∧ w.drew.cell? ⟨rb, 8, none⟩ = some (.int .i64 (t.end' : Int)) := ⟨c0, c8⟩
    have hb0 : Below w.heap.size w.drew (w.alloc (.cells #[.int .i64 0, .int .i64 0, .int .i64 0, .string ⟨#[]⟩, .int .i64 0] 52)).drew := by
      have h := ((Below.refl w.heap.size w).alloc (Nat.le_refl _) (.cells #[.int .i64 0, .int .i64 0, .int .i64 0, .string ⟨#[]⟩, .int .i64 0] 52)).drew
      exact ⟨h.os, h.tape, h.output, h.size, h.block⟩
    have c04 := cells2 hb0 c03
    go_region_held (fun w' => w'.cell? ⟨rb, 0, none⟩ = some (.string s) ∧ w'.cell? ⟨rb, 8, none⟩ = some (.int .i64 (t.end' : Int)))
      (first
        | with_reducible exact c03
        | with_reducible exact c04
        | with_reducible exact kk
        | with_reducible exact cells2 ((Below.refl _ _).alloc (Nat.le_refl _) _) kk
        | with_reducible exact cells2n hrl (tok_below5 w1 w.heap.size _ _ _ _ _) kk)
      (first
        | (go_at_call 34; with_reducible refine (HN.out _).mono ?_; rintro e w1 ⟨rfl, hb1⟩; first
            | (have kk := cells2 hb1 c03)
            | (have kk := cells2 hb1 c04; have hz := nx_blk hb1; obtain ⟨y0, y1, y2, y3, y4⟩ := tok_cells hz; obtain ⟨v0, v1, v2, v3, v4⟩ := tok_frozen hz)))
    · have hbx := ((Below.refl w.heap.size w).drew).trans hb1
      go_wp2_with fail
      go_meet
      exact ⟨w1.heap.size, rfl, rfl, rfl, heap_alloc_new w1 (.cells (tokCells x.1) 52), hbx.size, hbx.alloc hbx.size _⟩
    · have hbx := (((Below.refl w.heap.size w).alloc (Nat.le_refl _) (.cells #[.int .i64 0, .int .i64 0, .int .i64 0, .string ⟨#[]⟩, .int .i64 0] 52)).drew).trans (hb1.mono (by show _ ≤ (w.alloc _).heap.size; simp))
      go_wp2_with fail
      go_meet
      exact ⟨w.heap.size, rfl, rfl, rfl, row_set (row_set (row_set (row_set (row_set hz 0 _) 1 _) 2 _) 3 _) 4 _, Nat.le_refl _, hbx.trans (tok_below5 w1 w.heap.size _ _ _ _ _)⟩
  case rest =>
    obtain ⟨b, rfl, rfl, rfl, hbk, hle, hb⟩ := hcut
    obtain ⟨z0, z1, z2, z3, z4⟩ := tok_cells hbk
    have hrx : SeC wc rb s a 0 t := (hb.block rb hrl).trans hr
    obtain ⟨k0, k1, k2, k3, k4, k5, k6, k7, k8⟩ := se_cells hrx
    have v1 := se_frozen hrx 1
    have v2 := se_frozen hrx 2
    have v3 := se_frozen hrx 3
    have v4 := se_frozen hrx 4
    have v5 := se_frozen hrx 5
    have v6 := se_frozen hrx 6
    have v7 := se_frozen hrx 7
    have v8 := se_frozen hrx 8
    have hbn : rb ≠ b := by omega
    have hbn2 : b ≠ rb := by omega
    by_cases hx : x.2.2 = 0
    · obtain rfl : r = .ok x.1 := HR.out.trans (if_pos hx)
      have tx : (x.2.2 != 0) = false := by simp [hx]
      clear hx HR c0 c1 c2 c3 c4 c5 c6 c7 c8
      go_wp2
      go_end0
      refine ⟨rfl, gb_set (gb_set (gb_set (gb_set (gb_set (gb_set (gb_of hb) 3 _) 4 _) 5 _) 6 _) 7 _) 8 _, ?_⟩
      exact row_set (row_set (row_set (row_set (row_set (row_set hrx 3 _) 4 _) 5 _) 6 _) 7 _) 8 _
    · obtain rfl : r = .error (some (x.2.1, x.2.2)) := HR.out.trans (if_neg hx)
      have tx : (x.2.2 != 0) = true := by simp [hx]
      clear hx HR c0 c1 c2 c3 c4 c5 c6 c7 c8
      go_wp2
      refine bodyPost_ret (results_none rfl _ _ _) rfl ?_
      exact ⟨rfl, gb_set (gb_set (gb_of hb) 1 _) 2 _, row_set (row_set hrx 1 _) 2 _⟩

set_option maxRecDepth 100000 in
set_option maxHeartbeats 4000000 in
theorem sstep_not (s : ByteArray) (rb : Nat) (t : Tk.Tok) (a er : Int) (w : World) (he : er ≠ 0) (hr : SeC w rb s a er t) :
    Calls Try.prog 50 #[.pointer (some ⟨rb, 0, none⟩)] w fun e w' => e = .returned (.tuple #[]) ∧ w = w' := by
  obtain ⟨c0, c1, c2, c3, c4, c5, c6, c7, c8⟩ := se_cells hr
  have t1 : (er != 0) = true := by simp [he]
  clear he
  go_enter Try.func50, Try.ntmps50
  go_wp2
  refine bodyPost_ret (results_none rfl _ _ _) rfl ?_
  exact ⟨rfl, rfl⟩

end Go.Proofs.Ythbpkmmnoeikoaa
