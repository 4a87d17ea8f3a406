/-
  The reader's next, must, goes, need. Condition: the reader lies as RdC says; a text shorter than 2^32 - 15 bytes.
-/
import Derived.Test.YthbpkmmnoeikoaaJm08
import Derived.Deep.RegionHeld
import Derived.Deep.DeepCutAuto
namespace Go.Proofs.Ythbpkmmnoeikoaa
open Go Go.RowKit
set_option linter.unusedVariables false
set_option linter.unusedSimpArgs false

/-- a reader: its text, the token that is next, how deep it may go -/
def RdC (W : World) (rb : Nat) (s : ByteArray) (t : Tk.Tok) (d : Int) : Prop :=
  W.heap[rb]? = some (.cells #[.string s, .int .i64 (t.kind : Int), .int .i64 (t.at' : Int), .int .i64 (t.end' : Int), str t.s, .int .i64 t.n, .int .i64 d] 81 (0, 0))
theorem rd_cells {W : World} {rb : Nat} {s : ByteArray} {t : Tk.Tok} {d : Int} (h : RdC W rb s t d) :
    W.cell? ⟨rb, 0, none⟩ = some (.string s) ∧ W.cell? ⟨rb, 1, none⟩ = some (.int .i64 (t.kind : Int)) ∧ W.cell? ⟨rb, 2, none⟩ = some (.int .i64 (t.at' : Int)) ∧ W.cell? ⟨rb, 3, none⟩ = some (.int .i64 (t.end' : Int)) ∧
    W.cell? ⟨rb, 4, none⟩ = some (str t.s) ∧ W.cell? ⟨rb, 5, none⟩ = some (.int .i64 t.n) ∧ W.cell? ⟨rb, 6, none⟩ = some (.int .i64 d) :=
  ⟨(cell_of_row _ _ 0 _ _ (0, 0) h).trans rfl, (cell_of_row _ _ 1 _ _ (0, 0) h).trans rfl, (cell_of_row _ _ 2 _ _ (0, 0) h).trans rfl, (cell_of_row _ _ 3 _ _ (0, 0) h).trans rfl, (cell_of_row _ _ 4 _ _ (0, 0) h).trans rfl, (cell_of_row _ _ 5 _ _ (0, 0) h).trans rfl, (cell_of_row _ _ 6 _ _ (0, 0) h).trans rfl⟩
theorem rd_frozen {W : World} {rb : Nat} {s : ByteArray} {t : Tk.Tok} {d : Int} (h : RdC W rb s t d) : W.frozen? ⟨rb, 1, none⟩ = false ∧ W.frozen? ⟨rb, 2, none⟩ = false ∧ W.frozen? ⟨rb, 3, none⟩ = false ∧ W.frozen? ⟨rb, 4, none⟩ = false ∧ W.frozen? ⟨rb, 5, none⟩ = false ∧ W.frozen? ⟨rb, 6, none⟩ = false := by
  unfold RdC at h
  refine ⟨?_, ?_, ?_, ?_, ?_, ?_⟩ <;> simp [World.frozen?, h]

theorem cells2 {w w' : World} {a b : Addr} {u v : Value} (hb : Below w.heap.size w w') (h : w.cell? a = some u ∧ w.cell? b = some v) : w'.cell? a = some u ∧ w'.cell? b = some v := ⟨cell_below hb h.1, cell_below hb h.2⟩

theorem nx_blk {w w1 : World} {c : Array Value} {t : TypeId} (hb : Below (w.alloc (.cells c t)).drew.heap.size (w.alloc (.cells c t)).drew w1) : w1.heap[w.heap.size]? = some (.cells c t (0, 0)) :=
  (hb.block w.heap.size (by show _ < (w.alloc _).heap.size; simp)).trans (heap_alloc_new w (.cells c t))

theorem cells2n {n rb i j : Nat} {w w' : World} {u v : Value} (hn : rb < n) (hb : Below n w w') (h : w.cell? ⟨rb, i, none⟩ = some u ∧ w.cell? ⟨rb, j, none⟩ = some v) : w'.cell? ⟨rb, i, none⟩ = some u ∧ w'.cell? ⟨rb, j, none⟩ = some v :=
  ⟨(World.cell?_of_block (hb.block rb hn)).trans h.1, (World.cell?_of_block (hb.block rb hn)).trans h.2⟩
theorem tok_below5 (W : World) (b : Nat) (v0 v1 v2 v3 v4 : Value) : Below b W (((((W.setCell ⟨b, 0, none⟩ v0).setCell ⟨b, 1, none⟩ v1).setCell ⟨b, 2, none⟩ v2).setCell ⟨b, 3, none⟩ v3).setCell ⟨b, 4, none⟩ v4) :=
  (((((Below.refl b W).setCell (p := ⟨b, 0, none⟩) (Nat.le_refl _) v0).setCell (p := ⟨b, 1, none⟩) (Nat.le_refl _) v1).setCell (p := ⟨b, 2, none⟩) (Nat.le_refl _) v2).setCell (p := ⟨b, 3, none⟩) (Nat.le_refl _) v3).setCell (p := ⟨b, 4, none⟩) (Nat.le_refl _) v4

theorem gb_of {w w' : World} {r : Option Nat} (h : Below w.heap.size w w') : w.grownBy w' r := ⟨h.os, h.tape, h.output, h.size, fun k hk _ => h.block k hk⟩
theorem gb_set {a w : World} {b : Nat} (h : a.grownBy w (some b)) (i : Nat) (v : Value) : a.grownBy (w.setCell ⟨b, i, none⟩ v) (some b) :=
  ⟨h.os, h.tape, h.output, by simp only [World.setCell, Array.size_modify]; exact h.size, fun k hk hne => by
    have h1 : (w.setCell ⟨b, i, none⟩ v).heap[k]? = w.heap[k]? := by
      show (w.heap.modify b _)[k]? = _
      rw [Array.getElem?_modify]
      have : b ≠ k := fun e => hne (by rw [e])
      simp [this]
    exact h1.trans (h.block k hk hne)⟩

/-- it gives up -/
def wrongE (p : Nat × Int) : Ending := .panicked [{ v := .iface 77 (.agg #[.int .i64 (p.1 : Int), .int .i64 p.2]), recovered := false }]

set_option maxRecDepth 100000 in
set_option maxHeartbeats 4000000 in
theorem jmust_any (s : ByteArray) (rb : Nat) (t : Tk.Tok) (d : Int) (ok : Bool) (e : Int) (w : World) (hr : RdC w rb s t d) :
    Calls Try.prog 49 #[.pointer (some ⟨rb, 0, none⟩), .bool ok, .int .i64 e] w fun e' w' => w = w' ∧ e' = if ok then .returned (.tuple #[]) else wrongE (t.at', e) := by
  obtain ⟨c0, c1, c2, c3, c4, c5, c6⟩ := rd_cells hr
  cases ok with
  | true =>
    go_enter Try.func49, Try.ntmps49
    go_wp2
    go_end0
    exact ⟨rfl, rfl⟩
  | false =>
    go_enter Try.func49, Try.ntmps49
    go_wp2
    exact ⟨rfl, rfl, rfl⟩

set_option maxRecDepth 100000 in
set_option maxHeartbeats 4000000 in
theorem jnext_any (s : ByteArray) (rb : Nat) (t : Tk.Tok) (d : Int) (w : World) (hs : s.size ≤ 4294967280) (ht : t.end' ≤ s.size) (hr : RdC w rb s t d) :
    Calls Try.prog 47 #[.pointer (some ⟨rb, 0, none⟩)] w fun e w' => w.grownBy w' (some rb) ∧ match Js.nx s.data.toList t with
      | .ok t' => e = .returned (.tuple #[]) ∧ RdC w' rb s t' d
      | .error none => False
      | .error (some p) => e = wrongE p := by
  obtain ⟨c0, c1, c2, c3, c4, c5, c6⟩ := rd_cells hr
  have HN := Lib.hid (fun W => next_pos s t.end' W hs ht)
  unfold Js.nx
  generalize Tk.next s.data.toList t.end' = x at *
  unfold nextV tokV at HN
  obtain ⟨r, hr0⟩ : ∃ r, r = (if x.2.2 = 0 then (Except.ok x.1 : Js.Re Tk.Tok) else .error (some (x.2.1, x.2.2))) := ⟨_, rfl⟩
  rw [← hr0]
  have HR := Lib.hid hr0
  clear hr0
  go_enter Try.func47, Try.ntmps47
  have hf := rd_frozen hr
  obtain ⟨g1, g2, g3, g4, g5, g6⟩ := hf
  have hrl : rb < w.heap.size := (Array.getElem?_eq_some_iff.1 hr).1
  go_upto_region 0 with fail
  go_cut [2, 3, 4] (fun s2 s3 s4 wx => ∃ b : Nat, s2 = .pointer (some ⟨b, 0, none⟩) ∧ s3 = .int .i64 (x.2.1 : Int) ∧ s4 = .int .i64 x.2.2 ∧ wx.heap[b]? = some (.cells (tokCells x.1) 52 (0, 0)) ∧ w.heap.size ≤ b ∧ Below w.heap.size w wx)
  case first =>
    have c03 : w.drew.cell? ⟨rb, 0, none⟩ = some (.string s) ∧ w.drew.cell? ⟨rb, 3, none⟩ = some (.int .i64 (t.end' : Int)) := ⟨c0, c3⟩
    have hb0 : Below w.heap.size w.drew (w.alloc (.cells #[.int .i64 0, .int .i64 0, .int .i64 0, .string ⟨#[]⟩, .int .i64 0] 52)).drew := by
      have h := ((Below.refl w.heap.size w).alloc (Nat.le_refl _) (.cells #[.int .i64 0, .int .i64 0, .int .i64 0, .string ⟨#[]⟩, .int .i64 0] 52)).drew
      exact ⟨h.os, h.tape, h.output, h.size, h.block⟩
    have c04 := cells2 hb0 c03
    go_region_held (fun w' => w'.cell? ⟨rb, 0, none⟩ = some (.string s) ∧ w'.cell? ⟨rb, 3, none⟩ = some (.int .i64 (t.end' : Int)))
      (first
        | with_reducible exact c03
        | with_reducible exact c04
        | with_reducible exact kk
        | with_reducible exact cells2 ((Below.refl _ _).alloc (Nat.le_refl _) _) kk
        | with_reducible exact cells2n hrl (tok_below5 w1 w.heap.size _ _ _ _ _) kk)
      (first
        | (go_at_call 33; with_reducible refine (HN.out _).mono ?_; rintro e w1 ⟨rfl, hb1⟩; first
            | (have kk := cells2 hb1 c03)
            | (have kk := cells2 hb1 c04; have hz := nx_blk hb1; obtain ⟨y0, y1, y2, y3, y4⟩ := tok_cells hz; obtain ⟨v0, v1, v2, v3, v4⟩ := tok_frozen hz)))
    · have hbx := ((Below.refl w.heap.size w).drew).trans hb1
      go_wp2_with fail
      go_meet
      exact ⟨w1.heap.size, rfl, rfl, rfl, heap_alloc_new w1 (.cells (tokCells x.1) 52), hbx.size, hbx.alloc hbx.size _⟩
    · have hbx := (((Below.refl w.heap.size w).alloc (Nat.le_refl _) (.cells #[.int .i64 0, .int .i64 0, .int .i64 0, .string ⟨#[]⟩, .int .i64 0] 52)).drew).trans (hb1.mono (by show _ ≤ (w.alloc _).heap.size; simp))
      go_wp2_with fail
      go_meet
      exact ⟨w.heap.size, rfl, rfl, rfl, row_set (row_set (row_set (row_set (row_set hz 0 _) 1 _) 2 _) 3 _) 4 _, Nat.le_refl _, hbx.trans (tok_below5 w1 w.heap.size _ _ _ _ _)⟩
  case rest =>
    obtain ⟨b, rfl, rfl, rfl, hbk, hle, hb⟩ := hcut
    obtain ⟨z0, z1, z2, z3, z4⟩ := tok_cells hbk
    have hrx : RdC wc rb s t d := (hb.block rb hrl).trans hr
    obtain ⟨k0, k1, k2, k3, k4, k5, k6⟩ := rd_cells hrx
    obtain ⟨v1, v2, v3, v4, v5, v6⟩ := rd_frozen hrx
    by_cases hx : x.2.2 = 0
    · obtain rfl : r = .ok x.1 := HR.out.trans (if_pos hx)
      have tx : (x.2.2 != 0) = false := by simp [hx]
      clear hx HR c0 c1 c2 c3 c4 c5 c6 g1 g2 g3 g4 g5 g6
      go_wp2
      go_end0
      refine ⟨gb_set (gb_set (gb_set (gb_set (gb_set (gb_of hb) 1 _) 2 _) 3 _) 4 _) 5 _, rfl, ?_⟩
      exact row_set (row_set (row_set (row_set (row_set hrx 1 _) 2 _) 3 _) 4 _) 5 _
    · obtain rfl : r = .error (some (x.2.1, x.2.2)) := HR.out.trans (if_neg hx)
      have tx : (x.2.2 != 0) = true := by simp [hx]
      clear hx HR c0 c1 c2 c3 c4 c5 c6 g1 g2 g3 g4 g5 g6
      go_wp2
      exact ⟨rfl, gb_of hb, rfl⟩

end Go.Proofs.Ythbpkmmnoeikoaa
